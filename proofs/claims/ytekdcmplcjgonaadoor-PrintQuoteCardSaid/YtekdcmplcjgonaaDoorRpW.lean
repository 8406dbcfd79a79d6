/- The walks of the document's letters of numbers, variables and names. -/
import Derived.Test.YtekdcmplcjgonaaDoorB4
import Derived.Test.YtekdcmplcjgonaaDoorB1
set_option linter.unusedVariables false
set_option linter.unusedSimpArgs false
namespace Go.Proofs.YtekdcmplcjgonaaDoor
open Go.RowKit

set_option maxRecDepth 100000 in
set_option maxHeartbeats 2000000 in
theorem rdigits_nat (n : Nat) (hn : n ≤ 1000000000000) (w : World) : Calls Tryd.prog 42 #[.int .i64 n] w (RetS w (Lib.decDigits n)) := by
  have hlen := dec_len n
  have h0 : decide ((n : Int) < 0) = false := decide_eq_false (by omega)
  go_enter Tryd.func42, Tryd.ntmps42
  go_wp2
  go_loopw [0, 3] (fun nv sv wr => ∃ (u : Nat) (sfx : List UInt8), nv = .int .i64 u ∧ sv = .string ⟨sfx.toArray⟩ ∧ u ≤ n ∧ Hid (Lib.decDigits u ++ sfx = Lib.decDigits n) ∧ Below w.heap.size w wr) (fun nv _ _ => (intOf nv).toNat)
  case atStart => exact ⟨n, [], rfl, rfl, Nat.le_refl _, Lib.hid (List.append_nil _), Below.refl _ _⟩
  case round =>
    obtain ⟨u, sfx, rfl, rfl, hu, heq, hb⟩ := hrel
    have hsl : sfx.length ≤ n + 1 := by
      have := congrArg List.length heq.out
      rw [List.length_append] at this
      omega
    have h4 : ¬ 9223372036854775807 < 1 + sfx.length := by omega
    have hwz := hb.size
    by_cases h10 : 10 ≤ u
    · obtain ⟨x, hx⟩ : ∃ x, UInt8.ofNat (48 + u % 10) = x := ⟨_, rfl⟩
      have hv := fun w => one_byte w (48 + (u : Int) % 10) x (by rw [← hx]; have : u % 10 < 10 := Nat.mod_lt _ (by decide); simp; omega)
      have hv := hv wr
      have t1 : decide ((10 : Int) ≤ (u : Int)) = true := decide_eq_true (by omega)
      obtain ⟨u2, hu2⟩ : ∃ u2, u / 10 = u2 := ⟨_, rfl⟩
      have h3 : (u : Int) / 10 = (u2 : Int) := by omega
      have hstep := dec_step u (by omega)
      rw [hx, hu2] at hstep
      have heq2 : Lib.decDigits u2 ++ (x :: sfx) = Lib.decDigits n := by rw [← heq.out, hstep]; simp
      have Heq2 := Lib.hid heq2
      have hlt : u2 < u := by omega
      clear hstep heq2 heq hx hu2
      go_wp2
      go_roundw
      case rel => exact ⟨u2, x :: sfx, by first | rfl | (congr 1), by first | rfl | exact congrArg Value.string (cat [x] sfx), by omega, Heq2, hb.alloc hwz _⟩
      case measure => simp [intOf]; omega
    · obtain ⟨x, hx⟩ : ∃ x, UInt8.ofNat (48 + u) = x := ⟨_, rfl⟩
      have hv := one_byte wr (48 + (u : Int)) x (by rw [← hx]; simp; omega)
      have t1 : decide ((10 : Int) ≤ (u : Int)) = false := decide_eq_false (by omega)
      have heq2 : x :: sfx = Lib.decDigits n := by rw [← heq.out, Lib.decDigits_one (by omega), hx]; rfl
      have Heq2 := Lib.hid heq2
      clear heq2 heq hx
      go_wp2
      go_ret
      refine ⟨?_, hb.alloc hwz _⟩
      rw [← Heq2.out]
      first | rfl | exact congrArg (fun z => Ending.returned (Value.string z)) (cat [x] sfx)
set_option maxHeartbeats 2000000 in
theorem rdigits_any (n : Int) (h1 : -1000000000000 ≤ n) (h2 : n ≤ 1000000000000) (w : World) : Calls Tryd.prog 42 #[.int .i64 n] w (RetS w (Lib.itoa n)) := by
  by_cases h0 : n < 0
  · obtain ⟨u, rfl⟩ : ∃ u : Nat, n = -(u : Int) := ⟨n.natAbs, by omega⟩
    have hlen := dec_len u
    have hd := fun w => rdigits_nat u (by omega) w
    have hi : Lib.itoa (-(u : Int)) = 45 :: Lib.decDigits u := by rw [Lib.itoa, if_pos h0]; simp
    obtain ⟨D, hD⟩ : ∃ D, Lib.decDigits u = D := ⟨_, rfl⟩
    rw [hD] at hd hi hlen
    have Hd := Lib.hid hd
    have Hi := Lib.hid hi
    have t1 : decide (-(u : Int) < 0) = true := decide_eq_true h0
    have h4 : ¬ 9223372036854775807 < 1 + D.length := by omega
    clear hd hi hD
    go_enter Tryd.func42, Tryd.ntmps42
    go_wp2_with (go_at_call 42; refine (Hd.out _).mono ?_; rintro e w1 ⟨rfl, hb⟩)
    go_ret
    refine ⟨?_, hb⟩
    rw [Hi.out]
    first | rfl | exact congrArg (fun z => Ending.returned (Value.string z)) (cat [45] D)
  · obtain ⟨u, rfl⟩ : ∃ u : Nat, n = u := ⟨n.toNat, by omega⟩
    have hi : Lib.itoa (u : Int) = Lib.decDigits u := by rw [Lib.itoa, if_neg h0]; simp
    rw [hi]
    exact rdigits_nat u (by omega) w
set_option maxRecDepth 100000 in
set_option maxHeartbeats 2000000 in
theorem rpVarName_any (n : Nat) (hn : n ≤ 999) (w : World) : Calls Tryd.prog 24 #[.int .i64 n] w (RetS w (varName n)) := by
  obtain ⟨x, hx⟩ : ∃ x, UInt8.ofNat (65 + n % 26) = x := ⟨_, rfl⟩
  obtain ⟨m, hm⟩ : ∃ m, n / 26 = m := ⟨_, rfl⟩
  have hv := one_byte w (65 + (n : Int) % 26) x (by rw [← hx]; have : n % 26 < 26 := Nat.mod_lt _ (by decide); simp; omega)
  have hb : Below w.heap.size w (w.alloc (.cells #[.int .u8 (65 + (n : Int) % 26)] 5)) := (Below.refl _ _).alloc (Nat.le_refl _) _
  by_cases h : n < 26
  · have h1 : decide ((26 : Int) ≤ (n : Int)) = false := by simp; omega
    go_enter Tryd.func24, Tryd.ntmps24
    go_wp2
    go_ret
    refine ⟨?_, hb⟩
    rw [varName, if_pos h, hx]
    rfl
  · have h1 : decide ((26 : Int) ≤ (n : Int)) = true := by simp; omega
    have h2 : (n : Int).tdiv 26 = (m : Int) := by rw [Int.tdiv_eq_ediv_of_nonneg (by omega)]; omega
    have h3 : (n : Int) / 26 = (m : Int) := by omega
    have h4 : ¬ 9223372036854775807 < 1 + (Lib.decDigits m).length := by have := dec_len m; omega
    have hd := fun w => rdigits_nat m (by omega) w
    have hvn : varName n = x :: Lib.decDigits m := by rw [varName, if_neg h, hx, hm]
    obtain ⟨D, hD⟩ : ∃ D, Lib.decDigits m = D := ⟨_, rfl⟩
    rw [hD] at hd hvn h4
    have Hd := Lib.hid hd
    have Hvn := Lib.hid hvn
    have Hb := Lib.hid hb
    clear hd hvn hb hD hx hm
    go_enter Tryd.func24, Tryd.ntmps24
    go_wp2_with (go_at_call 42; refine (Hd.out _).mono ?_; rintro e w1 ⟨rfl, hb⟩)
    go_ret
    refine ⟨?_, Hb.out.trans (hb.mono (by simp))⟩
    rw [Hvn.out]
    first | rfl | exact congrArg (fun z => Ending.returned (Value.string z)) (cat [x] D)
theorem take_snoc8 (s : ByteArray) (k : Nat) (h : k < s.size) : s.data.toList.take (k + 1) = s.data.toList.take k ++ [s[k]] := by
  rw [List.take_succ_eq_append_getElem (by simpa using h)]; rfl
theorem plainN_eq {l : List UInt8} {c : UInt8} {t : List UInt8} (h : l = c :: t) : plainN l = (lowB c && l.all letB) := by
  subst h
  rw [plainN, List.all_cons]
  cases hl : lowB c
  · rfl
  · unfold letB; rw [hl]; rfl
set_option maxRecDepth 100000 in
set_option maxHeartbeats 4000000 in
theorem rpQuote_any (s : ByteArray) (hs : s.size ≤ 1000) (h0 : 0 < s.size) (w : World) : Calls Tryd.prog 22 #[.string s] w (RetS w (quoteN s.data.toList)) := by
  obtain ⟨c, hc⟩ : ∃ c, s[0] = c := ⟨_, rfl⟩
  have hd0 : s.data.toList = c :: s.data.toList.drop 1 := by have := drop_cons s 0 h0; rw [List.drop_zero, hc] at this; exact this
  have hpl := plainN_eq hd0
  have Hpl := Lib.hid hpl
  have h4 : ¬ 9223372036854775807 < 1 + s.size := by omega
  have h5 : ¬ 9223372036854775807 < 1 + s.size + 1 := by omega
  obtain ⟨z, hz⟩ : ∃ z : Int, (c.toNat : Int) = z := ⟨_, rfl⟩
  have hlow : lowB c = (decide ((97 : Int) ≤ z) && decide (z ≤ (122 : Int))) := by rw [low_iff, hz]
  have hi0 : (s[0].toNat : Int) = z := by rw [hc]; exact hz
  have hlt0 : (0 : Int) < (s.size : Int) := by omega
  obtain ⟨q, hq⟩ : ∃ q, lowB c = q := ⟨_, rfl⟩
  have Hq := Lib.hid hq
  rw [hq] at hlow
  have hcase : (decide ((97 : Int) ≤ z) = false ∧ q = false) ∨ (decide ((97 : Int) ≤ z) = true ∧ decide (z ≤ (122 : Int)) = q) := by
    rw [hlow]
    cases decide ((97 : Int) ≤ z) <;> simp
  have Hq2 := Lib.hid hq
  clear hpl hd0 hlow hq hc
  rcases hcase with ⟨c1, c2⟩ | ⟨c1, c2⟩
  all_goals
    have Hc2 := Lib.hid c2
    try (have c2' : decide (z ≤ (122 : Int)) = q := by first | assumption | exact decide_eq_true (by have := of_decide_eq_false c1; omega))
    go_enter Tryd.func22, Tryd.ntmps22
    go_wp2
    clear c1
    try clear c2'
    try clear c2
    go_loopw [3, 4, 5] (fun isv iv _ wr => ∃ (k : Nat) (r : Bool), iv = .int .i64 k ∧ k ≤ s.size ∧ isv = .bool r ∧ Hid (r = (lowB c && (s.data.toList.take k).all letB)) ∧ wr = w) (fun _ iv _ _ => s.size - (intOf iv).toNat)
    case atStart => exact ⟨0, _, rfl, Nat.zero_le _, rfl, Lib.hid (by rw [Hq2.out]; simp [Hc2.out]), by first | rfl | trivial⟩
    case round =>
      clear Hc2 hi0 hz
      obtain ⟨k, r, rfl, hk, rfl, hr, rfl⟩ := hrel
      by_cases hlt : k < s.size
      · have hlt' : decide ((k : Int) < (s.size : Int)) = true := by simpa using hlt
        obtain ⟨x, hx⟩ : ∃ x, s[k] = x := ⟨_, rfl⟩
        obtain ⟨y, hy⟩ : ∃ y : Int, (x.toNat : Int) = y := ⟨_, rfl⟩
        have hxy : (s[k].toNat : Int) = y := by rw [hx]; exact hy
        have hcl := classes x y hy
        have hnext : ((s.data.toList.take (k + 1)).all letB) = ((s.data.toList.take k).all letB && (lowB x || restB x)) := by rw [take_snoc8 s k hlt, List.all_append, hx]; simp [letB]
        have hn2 : ∀ b : Bool, (r && (lowB x || restB x)) = b → b = (lowB c && (s.data.toList.take (k + 1)).all letB) := fun b hb => by rw [← hb, hr.out, hnext, Bool.and_assoc]
        have Hn2 := Lib.hid hn2
        clear hnext hn2 hr hx hy
        cases r with
        | false =>
          clear hcl
          go_wp2
          go_roundw
          case rel => exact ⟨k + 1, false, by go_num, by omega, rfl, Lib.hid (Hn2.out false rfl), by first | rfl | trivial⟩
          case measure => simp [intOf]; omega
        | true =>
          rcases hcl with ⟨t1, t2, t3, t4, t5, t6, t7, t8, t9⟩ | ⟨t1, t2, t3, t4, t5, t6, t7, t8, t9⟩ | ⟨t1, t2, t3, t4, t5, t6, t7, t8, t9⟩ | ⟨t1, t2, t3, t4, t5, t6, t7, t8, t9⟩ | ⟨t1, t2, t3, t4, t5, t6, t7, t8, t9⟩ | ⟨t1, t2, t3, t4, t5, t6, t7, t8, t9⟩ | ⟨t1, t2, t3, t4, t5, t6, t7, t8, t9⟩ | ⟨t1, t2, t3, t4, t5, t6, t7, t8, t9⟩ | ⟨t1, t2, t3, t4, t5, t6, t7, t8, t9⟩
          all_goals
            have Hn3 := Lib.hid (Hn2.out _ (by rw [t8, t9]))
            clear Hn2 t8 t9
            go_wp2
            go_roundw
            case rel => exact ⟨k + 1, _, by go_num, by omega, rfl, Hn3, by first | rfl | trivial⟩
            case measure => simp [intOf]; omega
      · obtain rfl : k = s.size := by omega
        have hlt' : decide ((s.size : Int) < (s.size : Int)) = false := by simp
        have hr' : r = plainN s.data.toList := by rw [Hpl.out, hr.out, List.take_of_length_le (by simp)]
        have Hr := Lib.hid hr'
        clear hr hr'
        cases r with
        | true =>
          go_wp2
          go_ret
          exact ⟨by rw [← quote_eq' s Hr.out.symm]; rfl, Below.refl _ _⟩
        | false =>
          go_wp2
          go_ret
          exact ⟨by rw [← quote_eq s Hr.out.symm]; rfl, Below.refl _ _⟩
end Go.Proofs.YtekdcmplcjgonaaDoor
