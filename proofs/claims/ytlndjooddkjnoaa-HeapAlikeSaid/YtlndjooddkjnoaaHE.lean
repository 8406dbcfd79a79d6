/- The walks of the small functions of heaps: New, Mark, Ints, Same, May. -/
import Derived.Test.YtlndjooddkjnoaaHD
set_option linter.unusedVariables false
set_option linter.unusedSimpArgs false
namespace Go.Proofs.Ytlndjooddkjnoaa
open Go.RowKit

theorem eqS (a b : C) (w : World) : (binOp .eql 68 (.agg #[.int .i64 a.kind, .string a.name, .int .i64 a.n]) (.agg #[.int .i64 b.kind, .string b.name, .int .i64 b.n])).run Try.prog w = .ok (.bool (a.beq b)) w := by
  go_simp
  by_cases h1 : a.kind = b.kind <;> by_cases h2 : a.name.toList = b.name.toList <;> by_cases h3 : a.n = b.n <;> simp [C.beq, h1, h2, h3]
theorem neqS (a b : C) (w : World) : (binOp .neq 68 (.agg #[.int .i64 a.kind, .string a.name, .int .i64 a.n]) (.agg #[.int .i64 b.kind, .string b.name, .int .i64 b.n])).run Try.prog w = .ok (.bool (!a.beq b)) w := by
  go_simp
  by_cases h1 : a.kind = b.kind <;> by_cases h2 : a.name.toList = b.name.toList <;> by_cases h3 : a.n = b.n <;> simp [C.beq, h1, h2, h3]
set_option maxHeartbeats 400000 in
theorem Ints8_any (A B : Option Addr) (n m cap cap' : Nat) (xs ys : List Int) (w : World) (hx : IsI w A n cap xs) (hy : IsI w B m cap' ys) (hn : n ≤ 100000) (hm : m ≤ 100000) :
    Calls Try.prog 27 #[.slice A n cap, .slice B m cap'] w (RetD w (.bool (sameI xs ys))) := by
  by_cases hnm : n = m
  · subst hnm
    go_enter Try.func27, Try.ntmps27
    go_wp2
    go_loopw [5] (fun i wr => ∃ k : Nat, k ≤ n ∧ i = .int .i64 k ∧ Hid (sameI (xs.drop k) (ys.drop k) = sameI xs ys) ∧ ∃ d, wr = w.drewN d) (fun i _ => n - (intOf i).toNat)
    case atStart => exact ⟨0, Nat.zero_le _, rfl, rfl, 0, rfl⟩
    case round =>
      obtain ⟨k, hk, rfl, hres, d, rfl⟩ := hrel
      by_cases hlt : k < n
      · obtain ⟨x, hxk⟩ := hx.get hlt
        obtain ⟨y, hyk⟩ := hy.get hlt
        obtain ⟨b, off, rfl, hbb, hwf, h0⟩ := hx.at_ hxk
        obtain ⟨b', off', rfl, hbb', hwf', h0'⟩ := hy.at_ hyk
        have hd := drop_get hxk
        have hd' := drop_get hyk
        have Hd := Lib.hid hd
        have Hd' := Lib.hid hd'
        clear hxk hyk hd hd'
        have hp : (k : Int) < (n : Int) := by omega

        go_wp2
        go_quiet (fail)
        go_wp2
        · rename_i h
          go_ret
          exact ⟨ret_bool (by have := hres.out; rw [Hd.out, Hd'.out, sameI] at this; rw [← this]; simp at h; simp [h]), _, World.drewN_drewN _ _ _⟩
        · rename_i h
          go_roundw
          case rel => exact ⟨k + 1, by omega, by go_num, by have := hres.out; rw [Hd.out, Hd'.out, sameI] at this; simp at h; exact Lib.hid (by simpa [h] using this), _, rfl⟩
          case measure => simp [intOf]; omega
      · go_wp2
        go_ret
        exact ⟨ret_bool (by have := hres.out; rw [drop_end hx.len hlt, drop_end hy.len hlt] at this; simpa [sameI] using this), d, rfl⟩
  · have hne : ((n : Int) == (m : Int)) = false := by simp; omega
    go_enter Try.func27, Try.ntmps27
    go_wp2
    go_ret
    exact ⟨ret_bool (sameI_len (by rw [hx.len, hy.len]; exact hnm)).symm, 0, rfl⟩


def sameH (a b : Hp) : Bool := sameC a.cells b.cells && (sameI a.trail b.trail && (a.room == b.room))
theorem sameH_iff (a b : Hp) : sameH a b = true ↔ a = b := by
  obtain ⟨a1, a2, a3⟩ := a
  obtain ⟨b1, b2, b3⟩ := b
  simp [sameH, sameC_iff, sameI_iff]
set_option maxRecDepth 100000 in
set_option maxHeartbeats 2000000 in
theorem qSame_any (A B A' B' : Option Addr) (n c m d n' c' m' d' : Nat) (r r' : Int) (l l' : List C) (tr tr' : List Int) (w : World) (h : IsC w A n c l) (hT : IsI w B m d tr) (h' : IsC w A' n' c' l') (hT' : IsI w B' m' d' tr')
    (hn : n ≤ 100000) (hm : m ≤ 100000) (hn' : n' ≤ 100000) (hm' : m' ≤ 100000) :
    Calls Try.prog 14 #[.agg #[.slice A n c, .slice B m d, .int .i64 r], .agg #[.slice A' n' c', .slice B' m' d', .int .i64 r']] w (RetV w (.bool (sameH ⟨l, tr, r⟩ ⟨l', tr', r'⟩))) := by
  have Hl := Lib.hid h.len
  have Hl' := Lib.hid h'.len
  have Ht := Lib.hid hT.len
  have Ht' := Lib.hid hT'.len
  have HC := Lib.hid h
  have HC' := Lib.hid h'
  have HT := Lib.hid hT
  have HT' := Lib.hid hT'
  generalize hR : sameH ⟨l, tr, r⟩ ⟨l', tr', r'⟩ = R
  have HR := Lib.hid hR
  clear h h' hT hT' hR
  have hal : Below w.heap.size w ((w.alloc (.cells #[.slice A n c, .slice B m d, .int .i64 r] 25)).alloc (.cells #[.slice A' n' c', .slice B' m' d', .int .i64 r'] 25)) := ((Below.refl _ _).alloc (Nat.le_refl _) _).alloc (by first | omega | (simp; done) | (simp; omega)) _
  by_cases hnn : n = n'
  · subst hnn
    by_cases hmm : m = m'
    · subst hmm
      by_cases hrr : r = r'
      · subst hrr
        go_enter Try.func14, Try.ntmps14
        go_upto_region 1 with fail
        refine wp_world' (Φ := fun X => Below w.heap.size w X ∧ X.heap[w.heap.size]? = some (.cells #[.slice A n c, .slice B m d, .int .i64 r] 25 (0, 0)) ∧ X.heap[w.heap.size + 1]? = some (.cells #[.slice A' n c', .slice B' m d', .int .i64 r] 25 (0, 0)))
          ⟨hal, (alloc_past (by first | omega | (simp; done) | (simp; omega))).trans (alloc_at rfl), alloc_at (by first | omega | (simp; done) | (simp; omega))⟩ ?_
        rintro X ⟨hbX, x0, x1⟩
        obtain ⟨y0, y1, y2, yl⟩ := open3 x0
        obtain ⟨z0, z1, z2, zl⟩ := open3 x1
        have HCX := Lib.hid (HC.out.below hbX)
        have HCX' := Lib.hid (HC'.out.below hbX)
        have HTX := Lib.hid (HT.out.below hbX)
        have HTX' := Lib.hid (HT'.out.below hbX)
        clear hal x0 x1
        go_wp2
        go_loopw [5] (fun i wr => ∃ k : Nat, k ≤ n ∧ i = .int .i64 k ∧ Hid (sameC (l.drop k) (l'.drop k) = sameC l l') ∧ ∃ d, wr = X.drewN d) (fun i _ => n - (intOf i).toNat)
        case atStart => exact ⟨0, Nat.zero_le _, rfl, rfl, 0, rfl⟩
        case round =>
          obtain ⟨k, hk, rfl, hres, dd, rfl⟩ := hrel
          by_cases hlt : k < n
          · obtain ⟨x, hxk⟩ := HCX.out.get hlt
            obtain ⟨y, hyk⟩ := HCX'.out.get hlt
            obtain ⟨b, off, rfl, hbb, hwf, h0, h1, h2⟩ := HCX.out.at_ hxk
            obtain ⟨b', off', rfl, hbb', hwf', h0', h1', h2'⟩ := HCX'.out.at_ hyk
            have hd := drop_get hxk
            have hd' := drop_get hyk
            have Hd := Lib.hid hd
            have Hd' := Lib.hid hd'
            clear hxk hyk hd hd'
            have hp : (k : Int) < (n : Int) := by omega
            have hq := neqS x y
            go_wp2
            go_quiet (fail)
            go_wp2
            · rename_i h
              go_ret
              refine ⟨ret_bool ?_, hbX.trans (below_drewN (below_drewN (Below.refl w.heap.size X) _) _)⟩
              have := hres.out
              rw [Hd.out, Hd'.out, sameC] at this
              rw [← HR.out]
              simp at h
              unfold sameH
              simp only
              rw [← this]
              simp [h]
            · rename_i h
              go_roundw
              case rel => exact ⟨k + 1, by omega, by go_num, by have := hres.out; rw [Hd.out, Hd'.out, sameC] at this; simp at h; exact Lib.hid (by simpa [h] using this), _, rfl⟩
              case measure => simp [intOf]; omega
          · have hkn : k = n := by omega
            subst hkn
            have hsc : Hid (sameC l l' = true) := Lib.hid (by have := hres.out; rw [drop_end HCX.out.len hlt, drop_end HCX'.out.len hlt] at this; simpa [sameC] using this.symm)
            go_wp2
            go_loopw [6] (fun i wr => ∃ k : Nat, k ≤ m ∧ i = .int .i64 k ∧ Hid (sameI (tr.drop k) (tr'.drop k) = sameI tr tr') ∧ ∃ d, wr = X.drewN d) (fun i _ => m - (intOf i).toNat)
            case atStart => exact ⟨0, Nat.zero_le _, rfl, rfl, dd, rfl⟩
            case round =>
              clear hlt hres
              obtain ⟨k2, hk2, rfl, hres, dd, rfl⟩ := hrel
              by_cases hlt : k2 < m
              · obtain ⟨x, hxk⟩ := HTX.out.get hlt
                obtain ⟨y, hyk⟩ := HTX'.out.get hlt
                obtain ⟨b, off, rfl, hbb, hwf, h0⟩ := HTX.out.at_ hxk
                obtain ⟨b', off', rfl, hbb', hwf', h0'⟩ := HTX'.out.at_ hyk
                have hd := drop_get hxk
                have hd' := drop_get hyk
                have Hd := Lib.hid hd
                have Hd' := Lib.hid hd'
                clear hxk hyk hd hd'
                have hp : (k2 : Int) < (m : Int) := by omega
                go_wp2
                go_quiet (fail)
                go_wp2
                · rename_i h
                  go_ret
                  refine ⟨ret_bool ?_, hbX.trans (below_drewN (below_drewN (Below.refl w.heap.size X) _) _)⟩
                  have := hres.out
                  rw [Hd.out, Hd'.out, sameI] at this
                  rw [← HR.out]
                  simp at h
                  unfold sameH
                  simp only
                  rw [← this]
                  simp [h]
                · rename_i h
                  go_roundw
                  case rel => exact ⟨k2 + 1, by omega, by go_num, by have := hres.out; rw [Hd.out, Hd'.out, sameI] at this; simp at h; exact Lib.hid (by simpa [h] using this), _, rfl⟩
                  case measure => simp [intOf]; omega
              · have hkm : k2 = m := by omega
                subst hkm
                have hsi : Hid (sameI tr tr' = true) := Lib.hid (by have := hres.out; rw [drop_end HTX.out.len hlt, drop_end HTX'.out.len hlt] at this; simpa [sameI] using this.symm)
                go_wp2
                go_ret
                refine ⟨ret_bool ?_, hbX.trans (below_drewN (Below.refl w.heap.size X) _)⟩
                rw [← HR.out]
                unfold sameH
                simp [hsc.out, hsi.out]
      · have hne : ((r : Int) == r') = false := by simpa using hrr
        have hne2 : ((r : Int) != r') = true := by simpa using hrr
        go_enter Try.func14, Try.ntmps14
        go_wp2
        go_ret
        exact ⟨ret_bool (by rw [← HR.out]; simp [sameH, hrr]), hal⟩
    · have hne : ((m : Int) == (m' : Int)) = false := by simp; omega
      go_enter Try.func14, Try.ntmps14
      go_wp2
      go_ret
      exact ⟨ret_bool (by rw [← HR.out]; unfold sameH; simp only; rw [sameI_len (a := tr) (b := tr') (by rw [Ht.out, Ht'.out]; exact hmm)]; simp), hal⟩
  · have hne : ((n : Int) == (n' : Int)) = false := by simp; omega
    go_enter Try.func14, Try.ntmps14
    go_wp2
    go_ret
    exact ⟨ret_bool (by rw [← HR.out]; unfold sameH; simp only; rw [sameC_len (a := l) (b := l') (by rw [Hl.out, Hl'.out]; exact hnn)]; simp), hal⟩

theorem qMay_any (A B : Option Addr) (n c m d : Nat) (r : Int) (l : List C) (tr : List Int) (w : World) (h : IsC w A n c l) (hT : IsI w B m d tr) :
    Calls Try.prog 31 #[.agg #[.slice A n c, .slice B m d, .int .i64 r]] w (RetV w (.bool ((decide (n ≤ 120) && decide (m ≤ 120)) && rightH ⟨l, tr, r⟩))) := by
  have hcap := h.sl.hcap
  have hmax := h.sl.hmax
  have hcap' := hT.sl.hcap
  have hmax' := hT.sl.hmax
  unfold maxLen at hmax hmax'
  have hb0 : Below w.heap.size w (w.alloc (.cells #[.slice A n c, .slice B m d, .int .i64 r] 25)) := (Below.refl _ _).alloc (Nat.le_refl _) _
  by_cases h1 : n ≤ 120
  · by_cases h2 : m ≤ 120
    · have hri := qRight_any A B n c m d r l tr _ (h.below hb0) (hT.below hb0) (by omega) (by omega)
      have Hri := Lib.hid hri
      have hd1 : decide ((n : Int) ≤ 120) = true := by simp; omega
      have hd2 : decide ((m : Int) ≤ 120) = true := by simp; omega
      generalize rightH ⟨l, tr, r⟩ = R at *
      have Hh1 := Lib.hid h1
      have Hh2 := Lib.hid h2
      clear hri h1 h2
      go_enter Try.func31, Try.ntmps31
      go_wp2_with (first | (go_at_call 13; go_must (refine Hri.out.mono ?_); rintro e w1 ⟨rfl, hb1⟩))
      go_ret
      exact ⟨ret_bool (by simp [Hh1.out, Hh2.out]), hb0.trans (hb1.mono hb0.size)⟩
    · have hd1 : decide ((n : Int) ≤ 120) = true := by simp; omega
      have hd2 : decide ((m : Int) ≤ 120) = false := by simp; omega
      have Hh2 := Lib.hid h2
      clear h2 h1
      go_enter Try.func31, Try.ntmps31
      go_wp2
      go_ret
      exact ⟨ret_bool (by simp [Hh2.out]), hb0⟩
  · have hd1 : decide ((n : Int) ≤ 120) = false := by simp; omega
    have Hh1 := Lib.hid h1
    clear h1
    go_enter Try.func31, Try.ntmps31
    go_wp2
    go_ret
    exact ⟨ret_bool (by simp [Hh1.out]), hb0⟩
end Go.Proofs.Ytlndjooddkjnoaa
