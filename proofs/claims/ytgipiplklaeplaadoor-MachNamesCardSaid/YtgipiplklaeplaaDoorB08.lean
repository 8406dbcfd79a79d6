/- Texts of this proof that belong together: words of memory, plain laws, walks. -/
import Derived.Test.YtgipiplklaeplaaDoorRows
import Derived.Test.YtgipiplklaeplaaDoorB01
import Derived.Test.YtgipiplklaeplaaDoorB02
import Derived.Test.YtgipiplklaeplaaDoorB04
import Derived.Test.YtgipiplklaeplaaDoorB05
import Derived.Test.YtgipiplklaeplaaDoorB07
set_option linter.unusedVariables false
set_option linter.unusedSimpArgs false
namespace Go.Proofs.YtgipiplklaeplaaDoor
open Go.RowKit
def bndB (l : List C) (p : Nat) : Bool := (sAt l p).kind == 1 && !((sAt l p).n == (p : Int))
theorem on_bnd (l : List C) (p : Nat) : onB l p = (bndB l p || (sAt l p).kind == 3) := rfl
set_option maxHeartbeats 400000 in
theorem hbound_any (A : Option Addr) (n cap : Nat) (l : List C) (p : Nat) (w : World) (h : IsC w A n cap l) (hn : n ≤ 100000) (hp : p < n) :
  Calls Tryd.prog 61 #[.slice A n cap, .int .i64 p] w fun e w' => e = .returned (.bool (bndB l p)) ∧ w = w' := by
 obtain ⟨c, hc⟩ := h.get hp
 obtain ⟨b, off, rfl, hb, hwf, h0, h1, h2⟩ := h.at_ hc
 have hs := sAt_get hc
 have Hs := Lib.hid hs
 clear hs hc
 by_cases k : c.kind = 1
 ·have hk : (c.kind == 1) = true := by simp [k]
  have Hk := Lib.hid hk
  by_cases e : c.n = (p : Int)
  ·have he : (c.n == (p : Int)) = true := by simp [e]
   have he2 : (c.n != (p : Int)) = false := by simp [e]
   have He := Lib.hid he
   clear k e
   go_enter Tryd.func61, Tryd.ntmps61
   go_wp2
   go_ret
   exact ⟨ret_bool (by simp only [bndB, Hs.out, Hk.out, He.out]; rfl), rfl⟩
  ·have he : (c.n == (p : Int)) = false := by simp [e]
   have he2 : (c.n != (p : Int)) = true := by simp [e]
   have He := Lib.hid he
   clear k e
   go_enter Tryd.func61, Tryd.ntmps61
   go_wp2
   go_ret
   exact ⟨ret_bool (by simp only [bndB, Hs.out, Hk.out, He.out]; rfl), rfl⟩
 ·have hk : (c.kind == 1) = false := by simp [k]
  have Hk := Lib.hid hk
  clear k
  go_enter Tryd.func61, Tryd.ntmps61
  go_wp2
  go_ret
  exact ⟨ret_bool (by simp only [bndB, Hs.out, Hk.out]; rfl), rfl⟩
set_option maxHeartbeats 1000000 in
theorem hfollow_any (A : Option Addr) (n cap : Nat) (l : List C) (p : Nat) (w : World) (h : IsC w A n cap l) (hg : Good l) (hn : n ≤ 100000) (hp : p < n) :
  Calls Tryd.prog 64 #[.slice A n cap, .int .i64 p] w fun e w' => e = .returned (.int .i64 (fol l p : Nat)) ∧ w = w' := by
 have hl := h.len
 have Hl := Lib.hid hl
 clear hl
 have hrk := hg.ac.bounded
 obtain ⟨rk, hr1, hr2⟩ := hrk
 have Hr2 := Lib.hid hr2
 have Hg := Lib.hid hg
 clear hr1 hr2 hg
 go_enter Tryd.func64, Tryd.ntmps64
 go_wp2
 go_loop [1] (fun i => ∃ q : Nat, q < n ∧ i = .int .i64 q ∧ Hid (fol l q = fol l p)) (fun i => rk (intOf i).toNat)
 case atStart => exact ⟨p, hp, rfl, rfl⟩
 case round =>
  obtain ⟨q, hq, rfl, hres⟩ := hrel
  have hb := hbound_any A n cap l q w h hn hq
  obtain ⟨c, hc⟩ := h.get hq
  obtain ⟨b, off, rfl, hbb, hwf, h0, h1, h2⟩ := h.at_ hc
  have hs := sAt_get hc
  have Hs := Lib.hid hs
  clear hs hc
  cases ho : onB l q
  ·have hb0 : bndB l q = false := by rw [on_bnd] at ho; simp at ho; exact ho.1
   have hk : (c.kind == 3) = false := by have := Hs.out; rw [on_bnd] at ho; simp at ho; rw [this] at ho; simpa using ho.2
   rw [hb0] at hb
   have Hb := Lib.hid hb
   have Ho := Lib.hid ho
   clear hb0 ho hb
   go_wp2_with (first | (go_at_call 61; go_must (refine Hb.out.mono ?_); rintro e w1 ⟨rfl, rfl⟩))
   go_ret
   exact ⟨ret_int (by rw [← hres.out, fol_here Ho.out]), rfl⟩
  ·have hnx := nx_lt Hg.out.shp ho
   have hlt := Hr2.out q _ hnx (by rw [leads_on ho]; simp)
   have hst := Hg.out.fol_step ho
   have hnn : 0 ≤ c.n := by
    have h1 := shp_at Hg.out.shp (on_lt ho)
    have := Hs.out
    rcases on_kind ho with ⟨k, _⟩ | k
    ·have h2 := ok_ref h1 k; rw [this] at h2; omega
    ·have h2 := ok_ptr h1 k; rw [this] at h2; omega
   have hnx2 : nx l q = c.n.toNat := by unfold nx; rw [Hs.out]
   obtain ⟨m, hm⟩ : ∃ m : Nat, c.n = m := ⟨c.n.toNat, by omega⟩
   rw [hm] at h2 hnx2
   simp at hnx2
   rw [hnx2] at hnx hlt hst
   have hmn : m < n := by have := Hl.out; omega
   have Hst := Lib.hid hst
   cases hb0 : bndB l q
   ·have hk : (c.kind == 3) = true := by have := Hs.out; rw [on_bnd, hb0] at ho; simp at ho; rw [this] at ho; simpa using ho
    rw [hb0] at hb
    have Hb := Lib.hid hb
    clear hb0 ho hb hm hnx2 hst hnx
    go_wp2_with (first | (go_at_call 61; go_must (refine Hb.out.mono ?_); rintro e w1 ⟨rfl, rfl⟩))
    go_round
    case rel => exact ⟨m, hmn, rfl, by rw [← Hst.out]; exact hres.out⟩
    case measure => simp [intOf]; omega
   ·rw [hb0] at hb
    have Hb := Lib.hid hb
    clear hb0 ho hb hm hnx2 hst hnx
    go_wp2_with (first | (go_at_call 61; go_must (refine Hb.out.mono ?_); rintro e w1 ⟨rfl, rfl⟩))
    go_round
    case rel => exact ⟨m, hmn, rfl, by rw [← Hst.out]; exact hres.out⟩
    case measure => simp [intOf]; omega
end Go.Proofs.YtgipiplklaeplaaDoor
namespace Go.Proofs.YtgipiplklaeplaaDoor
open Go.RowKit
theorem neqC (a b : C) (w : World) : (binOp .neq 66 (.agg #[.int .i64 a.kind, .string a.name, .int .i64 a.n]) (.agg #[.int .i64 b.kind, .string b.name, .int .i64 b.n])).run Tryd.prog w = .ok (.bool (!a.beq b)) w := by
 go_simp
 by_cases h1 : a.kind = b.kind <;> by_cases h2 : a.name.toList = b.name.toList <;> by_cases h3 : a.n = b.n <;> simp [C.beq, h1, h2, h3]
set_option maxHeartbeats 400000 in
theorem rSame_any (A B : Option Addr) (n m cap cap' : Nat) (xs ys : List C) (w : World) (hx : IsC w A n cap xs) (hy : IsC w B m cap' ys) (hn : n ≤ 100000) (hm : m ≤ 100000) :
  Calls Tryd.prog 31 #[.slice A n cap, .slice B m cap'] w (RetD w (.bool (sameC xs ys))) := by
 by_cases hnm : n = m
 ·subst hnm
  go_enter Tryd.func31, Tryd.ntmps31
  go_wp2
  go_loopw [5] (fun i wr => ∃ k : Nat, k ≤ n ∧ i = .int .i64 k ∧ Hid (sameC (xs.drop k) (ys.drop k) = sameC xs ys) ∧ ∃ d, wr = w.drewN d) (fun i _ => n - (intOf i).toNat)
  case atStart => exact ⟨0, Nat.zero_le _, rfl, rfl, 0, rfl⟩
  case round =>
   obtain ⟨k, hk, rfl, hres, d, rfl⟩ := hrel
   by_cases hlt : k < n
   ·obtain ⟨x, hxk⟩ := hx.get hlt
    obtain ⟨y, hyk⟩ := hy.get hlt
    obtain ⟨b, off, rfl, hbb, hwf, h0, h1, h2⟩ := hx.at_ hxk
    obtain ⟨b', off', rfl, hbb', hwf', h0', h1', h2'⟩ := hy.at_ hyk
    have hd := drop_get hxk
    have hd' := drop_get hyk
    have Hd := Lib.hid hd
    have Hd' := Lib.hid hd'
    clear hxk hyk hd hd'
    have hp : (k : Int) < (n : Int) := by omega
    have hq := neqC x y
    go_wp2
    go_quiet (fail)
    go_wp2
    ·rename_i h
     go_ret
     exact ⟨ret_bool (by have := hres.out; rw [Hd.out, Hd'.out, sameC] at this; rw [← this]; simp at h; simp [h]), _, World.drewN_drewN _ _ _⟩
    ·rename_i h
     go_roundw
     case rel => exact ⟨k + 1, by omega, by go_num, by have := hres.out; rw [Hd.out, Hd'.out, sameC] at this; simp at h; exact Lib.hid (by simpa [h] using this), _, rfl⟩
     case measure => simp [intOf]; omega
   ·go_wp2
    go_ret
    exact ⟨ret_bool (by have := hres.out; rw [drop_end hx.len hlt, drop_end hy.len hlt] at this; simpa [sameC] using this), d, rfl⟩
 ·have hne : ((n : Int) == (m : Int)) = false := by simp; omega
  go_enter Tryd.func31, Tryd.ntmps31
  go_wp2
  go_ret
  exact ⟨ret_bool (sameC_len (by rw [hx.len, hy.len]; exact hnm)).symm, 0, rfl⟩
theorem inI_idx (ns : List Int) (x : Int) : inI ns x = decide (0 ≤ idxF (fun y => y == x) 0 ns) := by rw [idxF_any]; rfl
set_option maxHeartbeats 400000 in
theorem In_any (A : Option Addr) (n cap : Nat) (ns : List Int) (x : Int) (w : World) (h : IsI w A n cap ns) (hn : n ≤ 100000) :
  Calls Tryd.prog 66 #[.slice A n cap, .int .i64 x] w fun e w' => e = .returned (.bool (inI ns x)) ∧ w = w' := by
 go_enter Tryd.func66, Tryd.ntmps66
 go_wp2
 go_loop [5] (fun i => ∃ k : Nat, k ≤ n ∧ i = .int .i64 k ∧ Hid (idxF (fun y => y == x) k (ns.drop k) = idxF (fun y => y == x) 0 ns)) (fun i => n - (intOf i).toNat)
 case atStart => exact ⟨0, Nat.zero_le _, rfl, rfl⟩
 case round =>
  obtain ⟨k, hk, rfl, hres⟩ := hrel
  by_cases hlt : k < n
  ·obtain ⟨y, hy⟩ := h.get hlt
   obtain ⟨b, off, rfl, hb, hwf, hc⟩ := h.at_ hy
   have hd := drop_get hy
   have Hd := Lib.hid hd
   clear hy hd
   cases ho : (y == x)
   all_goals
    have ho' : (x == y) = (y == x) := by rw [Bool.eq_iff_iff]; simp; exact ⟨Eq.symm, Eq.symm⟩
    rw [ho] at ho'
    have Ho := Lib.hid ho
    go_wp2
   ·go_round
    case rel => exact ⟨k + 1, by omega, by go_num, by have := hres.out; rw [Hd.out, idxF, if_neg (by simp [Ho.out])] at this; exact this⟩
    case measure => simp [intOf]; omega
   ·go_ret
    exact ⟨by have := hres.out; rw [Hd.out, idxF, if_pos (by simp [Ho.out])] at this; exact ret_bool (by rw [inI_idx, ← this]; simp), rfl⟩
  ·go_wp2
   go_ret
   exact ⟨by have := hres.out; rw [drop_end h.len hlt] at this; exact ret_bool (by rw [inI_idx, ← this]; simp [idxF]), rfl⟩
set_option maxHeartbeats 400000 in
theorem Place_any (A : Option Addr) (n cap : Nat) (ns : List Int) (x : Int) (w : World) (h : IsI w A n cap ns) (hn : n ≤ 100000) :
  Calls Tryd.prog 65 #[.slice A n cap, .int .i64 x] w fun e w' => e = .returned (.int .i64 (placeI ns x)) ∧ w = w' := by
 go_enter Tryd.func65, Tryd.ntmps65
 go_wp2
 go_loop [5] (fun i => ∃ k : Nat, k ≤ n ∧ i = .int .i64 k ∧ Hid (idxF (fun y => y == x) k (ns.drop k) = idxF (fun y => y == x) 0 ns)) (fun i => n - (intOf i).toNat)
 case atStart => exact ⟨0, Nat.zero_le _, rfl, rfl⟩
 case round =>
  obtain ⟨k, hk, rfl, hres⟩ := hrel
  by_cases hlt : k < n
  ·obtain ⟨y, hy⟩ := h.get hlt
   obtain ⟨b, off, rfl, hb, hwf, hc⟩ := h.at_ hy
   have hd := drop_get hy
   have Hd := Lib.hid hd
   clear hy hd
   cases ho : (y == x)
   all_goals
    have ho' : (x == y) = (y == x) := by rw [Bool.eq_iff_iff]; simp; exact ⟨Eq.symm, Eq.symm⟩
    rw [ho] at ho'
    have Ho := Lib.hid ho
    go_wp2
   ·go_round
    case rel => exact ⟨k + 1, by omega, by go_num, by have := hres.out; rw [Hd.out, idxF, if_neg (by simp [Ho.out])] at this; exact this⟩
    case measure => simp [intOf]; omega
   ·go_ret
    exact ⟨by have := hres.out; rw [Hd.out, idxF, if_pos (by simp [Ho.out])] at this; exact ret_int this, rfl⟩
  ·go_wp2
   go_ret
   exact ⟨by have := hres.out; rw [drop_end h.len hlt] at this; exact ret_int (by rw [placeI, ← this]; rfl), rfl⟩
set_option maxHeartbeats 400000 in
theorem indexI_any (A : Option Addr) (n cap : Nat) (ns : List Int) (x : Int) (w : World) (h : IsI w A n cap ns) (hn : n ≤ 100000) :
  Calls Tryd.prog 47 #[.slice A n cap, .int .i64 x] w fun e w' => e = .returned (.int .i64 (placeI ns x)) ∧ w = w' := by
 go_enter Tryd.func47, Tryd.ntmps47
 go_wp2
 go_loop [8] (fun i => ∃ k : Nat, k ≤ n ∧ i = .int .i64 k ∧ Hid (idxF (fun y => y == x) k (ns.drop k) = idxF (fun y => y == x) 0 ns)) (fun i => n - (intOf i).toNat)
 case atStart => exact ⟨0, Nat.zero_le _, rfl, rfl⟩
 case round =>
  obtain ⟨k, hk, rfl, hres⟩ := hrel
  by_cases hlt : k < n
  ·obtain ⟨y, hy⟩ := h.get hlt
   obtain ⟨b, off, rfl, hb, hwf, hc⟩ := h.at_ hy
   have hd := drop_get hy
   have Hd := Lib.hid hd
   clear hy hd
   cases ho : (y == x)
   all_goals
    have ho' : (x == y) = (y == x) := by rw [Bool.eq_iff_iff]; simp; exact ⟨Eq.symm, Eq.symm⟩
    rw [ho] at ho'
    have Ho := Lib.hid ho
    go_wp2
   ·go_round
    case rel => exact ⟨k + 1, by omega, by go_num, by have := hres.out; rw [Hd.out, idxF, if_neg (by simp [Ho.out])] at this; exact this⟩
    case measure => simp [intOf]; omega
   ·go_ret
    exact ⟨by have := hres.out; rw [Hd.out, idxF, if_pos (by simp [Ho.out])] at this; exact ret_int this, rfl⟩
  ·go_wp2
   go_ret
   exact ⟨by have := hres.out; rw [drop_end h.len hlt] at this; exact ret_int (by rw [placeI, ← this]; rfl), rfl⟩
theorem containsI_any (A : Option Addr) (n cap : Nat) (ns : List Int) (x : Int) (w : World) (h : IsI w A n cap ns) (hn : n ≤ 100000) :
  Calls Tryd.prog 46 #[.slice A n cap, .int .i64 x] w fun e w' => e = .returned (.bool (inI ns x)) ∧ w = w' := by
 have hi := inI_idx ns x
 have Hi := Lib.hid hi
 clear hi
 go_enter Tryd.func46, Tryd.ntmps46
 go_wp2_with (go_at_call 47; go_must (refine (indexI_any A n cap ns x _ h hn).mono ?_); rintro e w1 ⟨rfl, rfl⟩)
 go_ret
 exact ⟨ret_bool Hi.out.symm, rfl⟩
end Go.Proofs.YtgipiplklaeplaaDoor
namespace Go.Proofs.YtgipiplklaeplaaDoor
open Go.RowKit
theorem infoI : (Tryd.prog.info? 3).map (fun i => (i.zero, i.size, i.bytes)) = some (some (.int .i64 0), 1, 8) := by kernel_rfl
theorem varsA_cons (acc : List Int) (c : C) (cs : List C) : varsA acc (c :: cs) = if c.kind = 1 ∧ inI acc c.n = false then varsA (acc ++ [c.n]) cs else varsA acc cs := rfl
set_option maxHeartbeats 400000 in
theorem tVars_any (A : Option Addr) (n cap : Nat) (t : List C) (w : World) (h : IsC w A n cap t) (hn : n ≤ 100000) :
  Calls Tryd.prog 45 #[.slice A n cap] w (RetI w (varsF t)) := by
 go_enter Tryd.func45, Tryd.ntmps45
 go_wp2
 go_loopw [3, 8] (fun o i wr => ∃ (k m c' : Nat) (Ao : Option Addr) (acc : List Int), k ≤ n ∧ i = .int .i64 k ∧ o = .slice Ao m c' ∧ m ≤ k ∧ wr.ownsRow w.heap.size 3 1 (.slice Ao m c') m (acc.map (Value.int .i64)) ∧ (∀ x ∈ acc, i64 x) ∧ Hid (varsA acc (t.drop k) = varsF t) ∧ Below w.heap.size w wr) (fun _ i _ => n - (intOf i).toNat)
 case atStart => exact ⟨0, 0, 0, none, [], Nat.zero_le _, rfl, rfl, Nat.le_refl _, World.ownsRow_nil _ _ _ _, by simp, rfl, Below.refl _ _⟩
 case round =>
  obtain ⟨k, m, c', Ao, acc, hk, rfl, rfl, hm, hown, hwa, hres, hb⟩ := hrel
  have hacc : IsI wr Ao m c' acc := ⟨Sl.own hown (by omega), hwa⟩
  by_cases hlt : k < n
  ·obtain ⟨x, hxk⟩ := h.get hlt
   obtain ⟨b, off, rfl, hbb, hwf, h0, h1, h2⟩ := h.at_ hxk
   have hd := drop_get hxk
   have Hd := Lib.hid hd
   clear hxk hd
   obtain ⟨hc, hf⟩ := bcell hb
   by_cases hk1 : x.kind = 1
   ·have hbk : (x.kind == 1) = true := by simp [hk1]
    have Hk1 := Lib.hid hk1
    clear hk1
    have hcon := containsI_any Ao m c' acc x.n
    cases hin : inI acc x.n
    ·rw [hin] at hcon
     have Hcon := Lib.hid hcon
     have Hin := Lib.hid hin
     clear hcon hin
     go_wp2_with (first
      | (go_at_call 46; go_must (refine (Hcon.out _ (hacc.below (by repeat (first | assumption | exact Below.refl _ _ | refine Below.drew ?_ | refine below_drewN ?_ _ | refine Below.alloc ?_ ?_ _ | refine Below.setCell ?_ ?_ _ | (apply Below.size; assumption) | (simp; done) | (simp; omega) | (have hz := hb.size; simp; omega) | (have hz := hb.size; omega) | omega))) (by omega)).mono ?_); rintro e w1 ⟨rfl, rfl⟩)
      | (at_builtin; go_must (refine wpList_append_sl rfl (.tmp 22) (.tmp 25) 42 rfl w.heap.size 3 Tryd.underlying42 infoI rfl (by omega) rfl ((hown.alloc _).alloc _) rfl (Sl.lit _ _ [.int .i64 x.n] 3 1 1 (by simp) rfl (by simp [maxLen])) (one1 rfl) (by omega) (by omega) (by have := hb.size; simp; omega) ?_); intro A' cap' w1 hown1 hb1 _ _))
     have hb2 : Below w.heap.size w w1 := Below.trans (by repeat (first | assumption | exact Below.refl _ _ | refine Below.drew ?_ | refine below_drewN ?_ _ | refine Below.alloc ?_ ?_ _ | refine Below.setCell ?_ ?_ _ | (apply Below.size; assumption) | (simp; done) | (simp; omega) | (have hz := hb.size; simp; omega) | (have hz := hb.size; omega) | omega)) hb1
     go_roundw
     case rel =>
      refine ⟨k + 1, m + 1, cap', A', acc ++ [x.n], by omega, by go_num, rfl, by omega, by simpa using hown1, ?_, Lib.hid ?_, hb2⟩
      ·intro y hy
       rcases List.mem_append.1 hy with hy | hy
       ·exact hwa y hy
       ·simp at hy; subst hy; exact hwf.n
      ·have := hres.out
       rw [Hd.out, varsA_cons, if_pos ⟨Hk1.out, Hin.out⟩] at this
       exact this
     case measure => simp [intOf]; omega
    ·rw [hin] at hcon
     have Hcon := Lib.hid hcon
     have Hin := Lib.hid hin
     clear hcon hin
     go_wp2_with (first
      | (go_at_call 46; go_must (refine (Hcon.out _ (hacc.below (by repeat (first | assumption | exact Below.refl _ _ | refine Below.drew ?_ | refine below_drewN ?_ _ | refine Below.alloc ?_ ?_ _ | refine Below.setCell ?_ ?_ _ | (apply Below.size; assumption) | (simp; done) | (simp; omega) | (have hz := hb.size; simp; omega) | (have hz := hb.size; omega) | omega))) (by omega)).mono ?_); rintro e w1 ⟨rfl, rfl⟩))
     go_roundw
     case rel =>
      refine ⟨k + 1, m, c', Ao, acc, by omega, by go_num, rfl, by omega, hown.alloc _, hwa, Lib.hid ?_, (by repeat (first | assumption | exact Below.refl _ _ | refine Below.drew ?_ | refine below_drewN ?_ _ | refine Below.alloc ?_ ?_ _ | refine Below.setCell ?_ ?_ _ | (apply Below.size; assumption) | (simp; done) | (simp; omega) | (have hz := hb.size; simp; omega) | (have hz := hb.size; omega) | omega))⟩
      have := hres.out
      rw [Hd.out, varsA_cons, if_neg (by simp [Hin.out])] at this
      exact this
     case measure => simp [intOf]; omega
   ·have hbk : (x.kind == 1) = false := by simp [hk1]
    have Hk1 := Lib.hid hk1
    clear hk1
    go_wp2
    go_roundw
    case rel =>
     refine ⟨k + 1, m, c', Ao, acc, by omega, by go_num, rfl, by omega, hown.alloc _, hwa, Lib.hid ?_, (by repeat (first | assumption | exact Below.refl _ _ | refine Below.drew ?_ | refine below_drewN ?_ _ | refine Below.alloc ?_ ?_ _ | refine Below.setCell ?_ ?_ _ | (apply Below.size; assumption) | (simp; done) | (simp; omega) | (have hz := hb.size; simp; omega) | (have hz := hb.size; omega) | omega))⟩
     have := hres.out
     rw [Hd.out, varsA_cons, if_neg (by simp [Hk1.out])] at this
     exact this
    case measure => simp [intOf]; omega
  ·go_wp2
   go_ret
   exact ⟨_, _, _, rfl, by have := hres.out; rw [drop_end h.len hlt] at this; rw [← this]; exact hacc, hb⟩
set_option maxHeartbeats 400000 in
theorem rVars_any (A : Option Addr) (n cap : Nat) (t : List C) (w : World) (h : IsC w A n cap t) (hn : n ≤ 100000) :
  Calls Tryd.prog 28 #[.slice A n cap] w (RetI w (varsF t)) := by
 go_enter Tryd.func28, Tryd.ntmps28
 go_wp2
 go_loopw [3, 4] (fun o i wr => ∃ (k m c' : Nat) (Ao : Option Addr) (acc : List Int), k ≤ n ∧ i = .int .i64 k ∧ o = .slice Ao m c' ∧ m ≤ k ∧ wr.ownsRow w.heap.size 3 1 (.slice Ao m c') m (acc.map (Value.int .i64)) ∧ (∀ x ∈ acc, i64 x) ∧ Hid (varsA acc (t.drop k) = varsF t) ∧ Below w.heap.size w wr) (fun _ i _ => n - (intOf i).toNat)
 case atStart => exact ⟨0, 0, 0, _, [], Nat.zero_le _, rfl, rfl, Nat.le_refl _, World.ownsRow_lit w #[] 0 (Nat.le_refl _) (by simp [maxLen]) rfl, by simp, rfl, (Below.refl _ _).alloc (Nat.le_refl _) _⟩
 case round =>
  obtain ⟨k, m, c', Ao, acc, hk, rfl, rfl, hm, hown, hwa, hres, hb⟩ := hrel
  have hacc : IsI wr Ao m c' acc := ⟨Sl.own hown (by omega), hwa⟩
  by_cases hlt : k < n
  ·obtain ⟨x, hxk⟩ := h.get hlt
   obtain ⟨b, off, rfl, hbb, hwf, h0, h1, h2⟩ := h.at_ hxk
   have hd := drop_get hxk
   have Hd := Lib.hid hd
   clear hxk hd
   obtain ⟨hc, hf⟩ := bcell hb
   by_cases hk1 : x.kind = 1
   ·have hbk : (x.kind == 1) = true := by simp [hk1]
    have Hk1 := Lib.hid hk1
    clear hk1
    have hcon := In_any Ao m c' acc x.n
    cases hin : inI acc x.n
    ·rw [hin] at hcon
     have Hcon := Lib.hid hcon
     have Hin := Lib.hid hin
     clear hcon hin
     go_wp2_with (first
      | (go_at_call 66; go_must (refine (Hcon.out _ (hacc.below (by repeat (first | assumption | exact Below.refl _ _ | refine Below.drew ?_ | refine below_drewN ?_ _ | refine Below.alloc ?_ ?_ _ | refine Below.setCell ?_ ?_ _ | (apply Below.size; assumption) | (simp; done) | (simp; omega) | (have hz := hb.size; simp; omega) | (have hz := hb.size; omega) | omega))) (by omega)).mono ?_); rintro e w1 ⟨rfl, rfl⟩)
      | (at_builtin; go_must (refine wpList_append_sl rfl (.tmp 28) (.tmp 34) 42 rfl w.heap.size 3 Tryd.underlying42 infoI rfl (by omega) rfl (hown.alloc _) rfl (Sl.lit _ _ [.int .i64 x.n] 3 1 1 (by simp) rfl (by simp [maxLen])) (one1 rfl) (by omega) (by omega) (by have := hb.size; simp; omega) ?_); intro A' cap' w1 hown1 hb1 _ _))
     have hb2 : Below w.heap.size w w1 := Below.trans (by repeat (first | assumption | exact Below.refl _ _ | refine Below.drew ?_ | refine below_drewN ?_ _ | refine Below.alloc ?_ ?_ _ | refine Below.setCell ?_ ?_ _ | (apply Below.size; assumption) | (simp; done) | (simp; omega) | (have hz := hb.size; simp; omega) | (have hz := hb.size; omega) | omega)) hb1
     go_roundw
     case rel =>
      refine ⟨k + 1, m + 1, cap', A', acc ++ [x.n], by omega, by go_num, rfl, by omega, by simpa using hown1, ?_, Lib.hid ?_, hb2⟩
      ·intro y hy
       rcases List.mem_append.1 hy with hy | hy
       ·exact hwa y hy
       ·simp at hy; subst hy; exact hwf.n
      ·have := hres.out
       rw [Hd.out, varsA_cons, if_pos ⟨Hk1.out, Hin.out⟩] at this
       exact this
     case measure => simp [intOf]; omega
    ·rw [hin] at hcon
     have Hcon := Lib.hid hcon
     have Hin := Lib.hid hin
     clear hcon hin
     go_wp2_with (first
      | (go_at_call 66; go_must (refine (Hcon.out _ (hacc.below (by repeat (first | assumption | exact Below.refl _ _ | refine Below.drew ?_ | refine below_drewN ?_ _ | refine Below.alloc ?_ ?_ _ | refine Below.setCell ?_ ?_ _ | (apply Below.size; assumption) | (simp; done) | (simp; omega) | (have hz := hb.size; simp; omega) | (have hz := hb.size; omega) | omega))) (by omega)).mono ?_); rintro e w1 ⟨rfl, rfl⟩))
     go_roundw
     case rel =>
      refine ⟨k + 1, m, c', Ao, acc, by omega, by go_num, rfl, by omega, hown, hwa, Lib.hid ?_, (by repeat (first | assumption | exact Below.refl _ _ | refine Below.drew ?_ | refine below_drewN ?_ _ | refine Below.alloc ?_ ?_ _ | refine Below.setCell ?_ ?_ _ | (apply Below.size; assumption) | (simp; done) | (simp; omega) | (have hz := hb.size; simp; omega) | (have hz := hb.size; omega) | omega))⟩
      have := hres.out
      rw [Hd.out, varsA_cons, if_neg (by simp [Hin.out])] at this
      exact this
     case measure => simp [intOf]; omega
   ·have hbk : (x.kind == 1) = false := by simp [hk1]
    have Hk1 := Lib.hid hk1
    clear hk1
    go_wp2
    go_roundw
    case rel =>
     refine ⟨k + 1, m, c', Ao, acc, by omega, by go_num, rfl, by omega, hown, hwa, Lib.hid ?_, (by repeat (first | assumption | exact Below.refl _ _ | refine Below.drew ?_ | refine below_drewN ?_ _ | refine Below.alloc ?_ ?_ _ | refine Below.setCell ?_ ?_ _ | (apply Below.size; assumption) | (simp; done) | (simp; omega) | (have hz := hb.size; simp; omega) | (have hz := hb.size; omega) | omega))⟩
     have := hres.out
     rw [Hd.out, varsA_cons, if_neg (by simp [Hk1.out])] at this
     exact this
    case measure => simp [intOf]; omega
  ·go_wp2
   go_ret
   exact ⟨_, _, _, rfl, by have := hres.out; rw [drop_end h.len hlt] at this; rw [← this]; exact hacc, hb⟩
end Go.Proofs.YtgipiplklaeplaaDoor
namespace Go.Proofs.YtgipiplklaeplaaDoor
open Go.RowKit
def ints (l : List Nat) : List Int := l.map fun q : Nat => (q : Int)
theorem ints_wf {l : List Nat} (h : ∀ q ∈ l, q < 1000000) : ∀ x ∈ ints l, i64 x := by
 intro x hx
 obtain ⟨q, hq, rfl⟩ := List.mem_map.1 hx
 have := h q hq
 exact ⟨by omega, by omega⟩
theorem ints_range_succ (p k : Nat) : ints ((List.range (k + 1)).map fun i => p + 1 + i) = ints ((List.range k).map fun i => p + 1 + i) ++ [((p + 1 + k : Nat) : Int)] := by
 simp [ints, List.range_succ]
def RetIN (w : World) (ns : List Int) (e : Ending) (w' : World) : Prop := ∃ A n cap, e = .returned (.slice A n cap) ∧ IsI w' A n cap ns ∧ (∀ a, A = some a → w.heap.size ≤ a.block) ∧ Below w.heap.size w w'
theorem RetIN.i {w : World} {ns : List Int} {e : Ending} {w' : World} (h : RetIN w ns e w') : RetI w ns e w' := by
 obtain ⟨A, n, c, h1, h2, h3, h4⟩ := h
 exact ⟨A, n, c, h1, h2, h4⟩
set_option maxHeartbeats 2000000 in
theorem hleadsN_any (A : Option Addr) (n cap : Nat) (l : List C) (p : Nat) (w : World) (h : IsC w A n cap l) (hs : shpB l = true) (hn : n ≤ 100000) (hp : p < n) :
  Calls Tryd.prog 63 #[.slice A n cap, .int .i64 p] w (RetIN w (ints (leads l p))) := by
 have hl := h.len
 have hok := shp_at hs (p := p) (by omega)
 have hll : ∀ q ∈ leads l p, q < 1000000 := fun q hq => by have := leads_lt hs hq; omega
 have hwf := ints_wf hll
 have Hwf := Lib.hid hwf
 clear hll hl hwf
 obtain ⟨c, hc⟩ := h.get hp
 have hbo := hbound_any A n cap l p
 have hC := h
 obtain ⟨b, off, rfl, hbb, hwc, h0, h1, h2⟩ := h.at_ hc
 have hs := sAt_get hc
 rw [hs] at hok
 have Hs := Lib.hid hs
 have HC := Lib.hid hC
 clear hs hc h hC
 by_cases k4 : c.kind = 4
 ·have ht := ok_top hok k4
  have hle := leads_top (l := l) (p := p) (by rw [Hs.out]; exact k4)
  rw [Hs.out] at hle
  obtain ⟨a, ha⟩ : ∃ a : Nat, c.n = a := ⟨c.n.toNat, by omega⟩
  have ha6 : a ≤ 6 := by omega
  rw [ha] at h2 hle
  simp only [Int.toNat_natCast] at hle
  rw [hle] at Hwf ⊢
  have hb0 : bndB l p = false := by simp [bndB, Hs.out, k4]
  rw [hb0] at hbo
  have hk3 : (c.kind == 3) = false := by simp [k4]
  have hk4 : (c.kind == 4) = true := by simp [k4]
  have Hbo := Lib.hid hbo
  clear hb0 hbo k4 ht hle ha hok
  go_enter Tryd.func63, Tryd.ntmps63
  go_wp2_with (first | (go_at_call 61; go_must (refine (Hbo.out _ (HC.out.below ((Below.refl _ _).alloc (Nat.le_refl _) _)) (by omega) (by omega)).mono ?_); rintro e w1 ⟨rfl, rfl⟩))
  go_loopw [5, 30] (fun o i wr => ∃ (k c' : Nat) (Ao : Option Addr), k ≤ a ∧ i = .int .i64 k ∧ o = .slice Ao k c' ∧ wr.ownsRow w.heap.size 3 1 (.slice Ao k c') k ((ints ((List.range k).map fun i => p + 1 + i)).map (Value.int .i64)) ∧ Below w.heap.size w wr) (fun _ i _ => a - (intOf i).toNat)
  case atStart => exact ⟨0, 0, none, Nat.zero_le _, rfl, rfl, World.ownsRow_nil _ _ _ _, (Below.refl _ _).alloc (Nat.le_refl _) _⟩
  case round =>
   obtain ⟨k, c', Ao, hk, rfl, rfl, hown, hb⟩ := hrel
   obtain ⟨hc, hf⟩ := bcell hb
   by_cases hlt : k < a
   ·have hsum : IntKind.i64.wrap ((p : Int) + 1 + k) = ((p + 1 + k : Nat) : Int) := by rw [IntWalk.i64_in _ (by omega)]; omega
    go_wp2_with (first
     | (at_builtin; go_must (refine wpList_append_sl rfl (.tmp 33) (.tmp 38) 42 rfl w.heap.size 3 Tryd.underlying42 infoI rfl (by omega) rfl (hown.alloc _) rfl (Sl.lit _ _ [.int .i64 ((p + 1 + k : Nat) : Int)] 3 1 1 (by simp) rfl (by simp [maxLen])) (one1 rfl) (by omega) (by omega) (by have := hb.size; simp; omega) ?_); intro A' cap' w1 hown1 hb1 _ _))
    have hb2 : Below w.heap.size w w1 := Below.trans (by repeat (first | assumption | exact Below.refl _ _ | refine Below.drew ?_ | refine below_drewN ?_ _ | refine Below.alloc ?_ ?_ _ | refine Below.setCell ?_ ?_ _ | (apply Below.size; assumption) | (simp; done) | (simp; omega) | (have hz := hb.size; simp; omega) | (have hz := hb.size; omega) | omega)) hb1
    go_roundw
    case rel => exact ⟨k + 1, cap', A', by omega, by go_num, rfl, by rw [ints_range_succ, List.map_append]; exact hown1, hb2⟩
    case measure => simp [intOf]; omega
   ·have hka : k = a := by omega
    subst hka
    have hres : IsI wr Ao k c' (ints ((List.range k).map fun i => p + 1 + i)) := ⟨Sl.own hown (by omega), Hwf.out⟩
    go_wp2
    go_ret
    exact ⟨_, _, _, rfl, hres, fun a ha => (Own0.lt hown a ha).1, hb⟩
 ·have hk4 : (c.kind == 4) = false := by simp [k4]
  cases ho : onB l p
  ·have hb0 : bndB l p = false := by rw [on_bnd] at ho; simp at ho; exact ho.1
   have hk : (c.kind == 3) = false := by have := Hs.out; rw [on_bnd] at ho; simp at ho; rw [this] at ho; simpa using ho.2
   have hle := leads_no (l := l) (p := p) ho (by rw [Hs.out]; exact k4)
   rw [hle]
   rw [hb0] at hbo
   have Hbo := Lib.hid hbo
   clear hb0 hbo k4 hle hok ho
   go_enter Tryd.func63, Tryd.ntmps63
   go_wp2_with (first | (go_at_call 61; go_must (refine (Hbo.out _ (HC.out.below ((Below.refl _ _).alloc (Nat.le_refl _) _)) (by omega) (by omega)).mono ?_); rintro e w1 ⟨rfl, rfl⟩))
   go_ret
   exact ⟨_, _, _, rfl, IsI.nil _ none 0 (by simp [maxLen]), by simp, (Below.refl _ _).alloc (Nat.le_refl _) _⟩
  ·have hle := leads_on ho
   have hnn : 0 ≤ c.n := by
    rcases on_kind ho with ⟨k, _⟩ | k
    ·have h2 := ok_ref hok (by rw [← Hs.out]; exact k); omega
    ·have h2 := ok_ptr hok (by rw [← Hs.out]; exact k); omega
   have hnx2 : nx l p = c.n.toNat := by unfold nx; rw [Hs.out]
   obtain ⟨m, hm⟩ : ∃ m : Nat, c.n = m := ⟨c.n.toNat, by omega⟩
   rw [hm] at h2 hnx2
   simp at hnx2
   rw [hle, hnx2] at Hwf
   rw [hle, hnx2]
   cases hb0 : bndB l p
   ·have hk : (c.kind == 3) = true := by have := Hs.out; rw [on_bnd, hb0] at ho; simp at ho; rw [this] at ho; simpa using ho
    rw [hb0] at hbo
    have Hbo := Lib.hid hbo
    clear hb0 hbo k4 hle hok ho hm hnx2 hnn
    go_enter Tryd.func63, Tryd.ntmps63
    go_wp2_with (first
     | (go_at_call 61; go_must (refine (Hbo.out _ (HC.out.below ((Below.refl _ _).alloc (Nat.le_refl _) _)) (by omega) (by omega)).mono ?_); rintro e w1 ⟨rfl, rfl⟩)
     | (at_builtin; go_must (refine wpList_append_sl rfl (.tmp 19) (.tmp 22) 42 rfl w.heap.size 3 Tryd.underlying42 infoI rfl (by omega) rfl (World.ownsRow_nil _ _ _ _) rfl (Sl.lit _ _ [.int .i64 (m : Int)] 3 1 1 (by simp) rfl (by simp [maxLen])) (one1 rfl) (by omega) (by omega) (by simp; omega) ?_); intro A' cap' w1 hown1 hb1 _ _))
    go_ret
    exact ⟨_, _, _, rfl, ⟨Sl.own hown1 (by omega), Hwf.out⟩, fun a ha => (Own0.lt hown1 a ha).1, Below.trans (((Below.refl _ _).alloc (Nat.le_refl _) _).alloc (by simp) _) hb1⟩
   ·have hk : (c.kind == 3) = false := by
     have hb1 := hb0
     unfold bndB at hb1
     rw [Hs.out] at hb1
     simp at hb1
     simp [hb1.1]
    rw [hb0] at hbo
    have Hbo := Lib.hid hbo
    clear hb0 hbo k4 hle hok ho hm hnx2 hnn
    go_enter Tryd.func63, Tryd.ntmps63
    go_wp2_with (first
     | (go_at_call 61; go_must (refine (Hbo.out _ (HC.out.below ((Below.refl _ _).alloc (Nat.le_refl _) _)) (by omega) (by omega)).mono ?_); rintro e w1 ⟨rfl, rfl⟩)
     | (at_builtin; go_must (refine wpList_append_sl rfl (.tmp 19) (.tmp 22) 42 rfl w.heap.size 3 Tryd.underlying42 infoI rfl (by omega) rfl (World.ownsRow_nil _ _ _ _) rfl (Sl.lit _ _ [.int .i64 (m : Int)] 3 1 1 (by simp) rfl (by simp [maxLen])) (one1 rfl) (by omega) (by omega) (by simp; omega) ?_); intro A' cap' w1 hown1 hb1 _ _))
    go_ret
    exact ⟨_, _, _, rfl, ⟨Sl.own hown1 (by omega), Hwf.out⟩, fun a ha => (Own0.lt hown1 a ha).1, Below.trans (((Below.refl _ _).alloc (Nat.le_refl _) _).alloc (by simp) _) hb1⟩
theorem hleads_any (A : Option Addr) (n cap : Nat) (l : List C) (p : Nat) (w : World) (h : IsC w A n cap l) (hs : shpB l = true) (hn : n ≤ 100000) (hp : p < n) :
  Calls Tryd.prog 63 #[.slice A n cap, .int .i64 p] w (RetI w (ints (leads l p))) := (hleadsN_any A n cap l p w h hs hn hp).mono fun _ _ h => h.i
end Go.Proofs.YtgipiplklaeplaaDoor
