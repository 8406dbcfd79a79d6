/- The walk that makes a right term of any cells. -/
import Derived.Deep.RegionHeld3
import Derived.Test.YtekdcmplcjgonaaDoorMade
import Derived.Test.YtekdcmplcjgonaaDoorB4
set_option linter.unusedVariables false
set_option linter.unusedSimpArgs false
namespace Go.Proofs.YtekdcmplcjgonaaDoor
open Go.RowKit

theorem and3 (n : Int) : bits .and .i64 n 3 = n % 4 := by
  have h : (BitVec.ofInt 64 3).toNat = 2 ^ 2 - 1 := by decide
  have key : (BitVec.ofInt 64 n &&& BitVec.ofInt 64 3).toNat = (n % ((2 ^ 64 : Nat) : Int)).toNat % 2 ^ 2 := by
    rw [BitVec.toNat_and, BitVec.toNat_ofInt, h, Nat.and_two_pow_sub_one_eq_mod]
  show IntKind.i64.wrap ((BitVec.ofInt 64 n &&& BitVec.ofInt 64 3).toNat : Nat) = n % 4
  rw [key, IntKind.wrap_i64]
  omega
theorem and16 (n : Int) : bits .and .i64 n 65535 = n % 65536 := by
  have h : (BitVec.ofInt 64 65535).toNat = 2 ^ 16 - 1 := by decide
  have key : (BitVec.ofInt 64 n &&& BitVec.ofInt 64 65535).toNat = (n % ((2 ^ 64 : Nat) : Int)).toNat % 2 ^ 16 := by
    rw [BitVec.toNat_and, BitVec.toNat_ofInt, h, Nat.and_two_pow_sub_one_eq_mod]
  show IntKind.i64.wrap ((BitVec.ofInt 64 n &&& BitVec.ofInt 64 65535).toNat : Nat) = n % 65536
  rw [key, IntKind.wrap_i64]
  omega
theorem skip_snoc {out : List C} {q : Nat} (h : ∀ rest, skip (out ++ rest) 1 = skip rest q) (hq : 0 < q) {y : C} (hy : y.ok = true) : ∀ rest, skip ((out ++ [y]) ++ rest) 1 = skip rest (y.ar + (q - 1)) := by
  intro rest
  obtain ⟨p, rfl⟩ : ∃ p, q = p + 1 := ⟨q - 1, by omega⟩
  rw [List.append_assoc, h, List.singleton_append, skip_cons, if_pos hy, Nat.add_sub_cancel, Nat.add_comm]
theorem ok_var {v : Int} (h1 : 0 ≤ v) (h2 : v ≤ 999) : (⟨1, ⟨#[]⟩, v⟩ : C).ok = true := by
  have := c0_ok (t := .v v) (by simp [Tm.ok]; omega)
  exact this
theorem ok_int {v : Int} (h1 : -2147483647 ≤ v) (h2 : v ≤ 2147483647) : (⟨2, ⟨#[]⟩, v⟩ : C).ok = true := by
  have := c0_ok (t := .i v) (by simp [Tm.ok]; omega)
  exact this
theorem ok_fn {s : ByteArray} {m : Nat} (h1 : okName s = true) (h2 : m ≤ 6) : (⟨3, s, (m : Int)⟩ : C).ok = true := by
  have h31 : ¬ (3 : Int) = 1 := by decide
  have h32 : ¬ (3 : Int) = 2 := by decide
  simp only [C.ok, if_neg h31, if_neg h32, if_true, h1, Bool.true_and, Bool.and_eq_true]
  exact ⟨decide_eq_true (by omega), decide_eq_true (by omega)⟩
theorem wf_small {k n : Int} {s : ByteArray} (h1 : 0 ≤ k) (h2 : k ≤ 3) (h3 : -3000000000 ≤ n) (h4 : n ≤ 3000000000) (h5 : s.size ≤ 12) : (⟨k, s, n⟩ : C).wf := ⟨⟨by simp only; omega, by simp only; omega⟩, ⟨by simp only; omega, by simp only; omega⟩, by simp [maxLen]; omega⟩
theorem wrap_sm {x : Int} (h1 : 0 ≤ x) (h2 : x ≤ 1000000) : wrap64 x = x := by unfold wrap64; omega
theorem okName_le {s : ByteArray} (h : okName s = true) : s.size ≤ 12 := by
  unfold okName at h
  simp at h
  exact h.2.2
theorem onW {G : World → Prop} {w : World} (Φ : World → Prop) (h : Φ w) (k : ∀ X, Φ X → G X) : G w := k w h
theorem frozenOf {w : World} {b : Nat} {cs : Array Value} {t : TypeId} (h : w.heap[b]? = some (.cells cs t (0, 0))) (k : Nat) : w.frozen? ⟨b, k, none⟩ = false := by simp [World.frozen?, h]
theorem set3 {w : World} {b : Nat} {a0 a1 a2 : Value} {t : TypeId} (h : w.heap[b]? = some (.cells #[a0, a1, a2] t (0, 0))) (v0 v1 v2 : Value) : (((w.setCell ⟨b, 0, none⟩ v0).setCell ⟨b, 1, none⟩ v1).setCell ⟨b, 2, none⟩ v2).heap[b]? = some (.cells #[v0, v1, v2] t (0, 0)) := by
  have st : ∀ {w : World} {k : Nat} {cs : Array Value}, w.heap[b]? = some (.cells cs t (0, 0)) → ∀ v, (w.setCell ⟨b, k, none⟩ v).heap[b]? = some (.cells (cs.setIfInBounds k v) t (0, 0)) := fun {w k cs} h v => by
    simp [World.setCell, Array.getElem?_modify, h]
  rw [st (st (st h v0) v1) v2]
  simp
/-- where a row lies: where another one does, or in a place of its own -/
def At0 (w : World) (A0 : Option Addr) (n : Nat) (A : Option Addr) : Prop := ∀ a, A = some a → (A0 = some a ∧ 0 < n) ∨ w.heap.size ≤ a.block
/-- a right term of at most so many cells comes back -/
def RetM (w : World) (A0 : Option Addr) (n0 : Nat) (most : Nat) (e : Ending) (w' : World) : Prop := ∃ (T : Tm) (A : Option Addr) (n c : Nat), e = .returned (.slice A n c) ∧ T.ok = true ∧ T.size ≤ most ∧ IsC w' A n c T.flat ∧ Below w.heap.size w w' ∧ At0 w A0 n0 A
theorem Own0.ge {w : World} {base size n cap : Nat} {e : TypeId} {A : Option Addr} {xs : List Value} (h : Own0 w base e size (.slice A n cap) n xs) (hn : 0 < n) : ∀ a, A = some a → base ≤ a.block := by
  rcases h with ⟨A', he, rfl, _⟩ | h
  · omega
  · exact fun a ha => (Own0.lt h a ha).1
set_option maxHeartbeats 1000000 in
theorem rRight_big (A : Option Addr) (n cap : Nat) (w : World) (h : 200 < n) (hn : n ≤ cap) (hc : cap ≤ maxLen) : Calls Tryd.prog 36 #[.slice A n cap] w fun e w' => e = .returned (.bool false) ∧ w' = w := by
  unfold maxLen at hc
  have h1 : decide ((1 : Int) ≤ (n : Int)) = true := decide_eq_true (by omega)
  have h2 : decide ((n : Int) ≤ 200) = false := decide_eq_false (by omega)
  go_enter Tryd.func36, Tryd.ntmps36
  go_wp2
  go_ret
  exact ⟨rfl, rfl⟩
set_option maxRecDepth 100000 in
set_option maxHeartbeats 8000000 in
theorem rMade_any (A : Option Addr) (n cap : Nat) (cs : List C) (w : World) (h : IsC w A n cap cs) (most : Nat) (hm : 1 ≤ most) (hm2 : most ≤ 200) : Calls Tryd.prog 12 #[.slice A n cap, .int .i64 most] w (RetM w A n most) := by
  have hlen := h.len
  have hcap := h.sl.hcap
  have hmax := h.sl.hmax
  unfold maxLen at hmax
  have hright : ∃ q, (q = true → rightB cs = true) ∧ ∀ w', Below w.heap.size w w' → Calls Tryd.prog 36 #[.slice A n cap] w' (RetV w' (.bool q)) := by
    by_cases hn : n ≤ 200
    · exact ⟨rightB cs, id, fun w' hb => rRight_any A n cap cs w' (h.below hb) (by omega)⟩
    · exact ⟨false, fun h => by simp at h, fun w' hb => (rRight_big A n cap w' (by omega) hcap h.sl.hmax).mono fun e w2 ⟨h1, h2⟩ => ⟨h1, by rw [h2]; exact Below.refl _ _⟩⟩
  obtain ⟨q, hq, hcall⟩ := hright
  have Hcall := Lib.hid hcall
  by_cases hyes : q = true ∧ n ≤ most
  · obtain ⟨hq1, hle⟩ := hyes
    obtain ⟨T, t1, t2, t3⟩ := right_tree (hq hq1)
    rw [hq1] at hcall
    have Hcall := Lib.hid hcall
    have hle2 : decide ((n : Int) ≤ (most : Int)) = true := decide_eq_true (by omega)
    have hsz : T.size ≤ most := by rw [← flat_size, t2]; omega
    have Hh := Lib.hid h
    have hn0 : 0 < n := by have := T.size_pos; rw [← flat_size, t2] at this; omega
    clear hcall hq h hq1
    go_enter Tryd.func12, Tryd.ntmps12
    go_wp2_with (go_at_call 36; refine (Hcall.out _ (Below.refl _ _)).mono ?_; rintro e w1 ⟨rfl, hb⟩)
    go_ret
    exact ⟨T, A, n, cap, rfl, t1, hsz, by rw [t2]; exact Hh.out.below hb, hb, fun a ha => .inl ⟨ha, hn0⟩⟩
  · have Hh := Lib.hid h
    have hcc : ∀ (i : Nat) (c : C), cs[i]? = some c → ∃ b off, A = some ⟨b, off, none⟩ ∧ b < w.heap.size ∧ c.wf ∧ w.cell? ⟨b, off + i * 3, none⟩ = some (.int .i64 c.kind) ∧ w.cell? ⟨b, off + i * 3 + 1, none⟩ = some (.string c.name) ∧ w.cell? ⟨b, off + i * 3 + 2, none⟩ = some (.int .i64 c.n) := fun i c hi => h.at_ hi
    have Hcc := Lib.hid hcc
    have hq' : q = false ∨ (q = true ∧ decide ((n : Int) ≤ (most : Int)) = false) := by
      cases q with
      | false => exact .inl rfl
      | true => exact .inr ⟨rfl, decide_eq_false (fun hh => hyes ⟨rfl, by omega⟩)⟩
    clear hcall hq h hcc hyes
    go_enter Tryd.func12, Tryd.ntmps12
    go_upto_region 3 with (go_at_call 36; refine (Hcall.out _ (Below.refl _ _)).mono ?_; rintro e w1 ⟨rfl, hb⟩)
    any_goals (exfalso; rcases hq' with h | ⟨h, h2⟩ <;> simp_all; done)
    all_goals
      clear hq' Hcall
      have Hb := Lib.hid hb
      try (have hdd : decide (n ≤ most) = false := decide_eq_false (by assumption); simp only [hdd]; clear hdd)
      go_wp2
      go_loopw [5, 6, 7] (fun ov nv iv wr => ∃ (q i k c : Nat) (A' : Option Addr) (out : List C), nv = .int .i64 q ∧ iv = .int .i64 i ∧ ov = .slice A' k c ∧ out.length = k ∧ k = i ∧ k + q ≤ most ∧ Own0 wr w.heap.size 66 3 (.slice A' k c) k (flatC out) ∧ Hid (∀ c ∈ out, c.wf) ∧ Hid (∀ rest, skip (out ++ rest) 1 = skip rest q) ∧ Below w.heap.size w wr) (fun ov _ _ _ => match ov with | .slice _ k _ => most - k | _ => 0)
      case atStart => exact ⟨1, 0, 0, 0, _, [], rfl, rfl, rfl, rfl, rfl, by omega, .inl ⟨_, rfl, rfl, rfl⟩, Lib.hid (by simp), Lib.hid (fun rest => rfl), Hb.out.alloc Hb.out.size _⟩
      case round =>
        clear Hb hb
        obtain ⟨q', i, k, c, A', out, rfl, rfl, rfl, hk, rfl, hkq, hown, hwf, hsk, hb⟩ := hrel
        by_cases hq0 : 0 < q'
        · have hqd : decide ((0 : Int) < (q' : Int)) = true := decide_eq_true (by omega)
          go_upto_region 8 with fail
          by_cases hin : k < n
          · obtain ⟨x, hx⟩ : ∃ x, cs[k]? = some x := ⟨_, List.getElem?_eq_getElem (by omega)⟩
            obtain ⟨bt, off, rfl, hbt, hxw, c0', c1', c2'⟩ := Hcc.out k x hx
            have c0 := (hb.cell (p := ⟨bt, off + k * 3, none⟩) hbt).trans c0'
            have c1 := (hb.cell (p := ⟨bt, off + k * 3 + 1, none⟩) hbt).trans c1'
            have c2 := (hb.cell (p := ⟨bt, off + k * 3 + 2, none⟩) hbt).trans c2'
            have hbt2 : bt < wr.heap.size := Nat.lt_of_lt_of_le hbt hb.size
            have hind : decide ((k : Int) < (n : Int)) = true := decide_eq_true (by omega)
            clear c0' c1' c2' hx
            obtain ⟨kb, hkb⟩ : ∃ kb, bits .and .i64 x.kind 3 = kb := ⟨_, rfl⟩
            obtain ⟨m, hmb⟩ : ∃ m : Nat, bits .and .i64 x.n 3 = (m : Int) := ⟨(x.n % 4).toNat, by rw [and3]; omega⟩
            obtain ⟨v16, hv16⟩ : ∃ v16, bits .and .i64 x.n 65535 = v16 := ⟨_, rfl⟩
            have hm3 : m ≤ 3 := by have := and3 x.n; omega
            have hv : 0 ≤ v16 ∧ v16 ≤ 65535 := by have := and16 x.n; omega
            by_cases h1 : kb = 1
            · have b1 : (kb == 1) = true := by simpa using h1
              clear h1
              obtain ⟨y, hy⟩ : ∃ y : Int, v16 % 1000 = y := ⟨_, rfl⟩
              have hy1 : 0 ≤ y ∧ y ≤ 999 := by omega
              have hy2 : v16.tmod 1000 = y := by rw [Int.tmod_eq_emod_of_nonneg hv.1]; exact hy
              clear hmb
              go_upto_region 17 with fail
              clear hkb hv16 hy hy2 hv hm3 b1
              go_upto_region 6 with (at_builtin; go_must (refine wpList_append_own0 rfl (.tmp 107) (.tmp 109) 22 rfl w.heap.size 66 Tryd.underlying22 infoC rfl (by omega) rfl (hown.below (((Below.refl _ _).alloc (Nat.le_refl _) _).alloc (by simp) _)) rfl (Sl.lit _ _ (flatC [⟨1, ⟨#[]⟩, y⟩]) 66 3 1 (by first | rfl | simp) rfl (by simp [maxLen])) (oneCs [⟨1, ⟨#[]⟩, y⟩]) (by omega) (by omega) (by omega) (by have := hb.size; simp; omega) ?_); intro A2 cap2 w2 hown1 hb2)
              have hb3 : Below w.heap.size w w2 := ((hb.alloc hb.size _).alloc (by have := hb.size; simp; omega) _).trans hb2
              rw [← flatC_append] at hown1
              have hwf2 : ∀ c ∈ out ++ [⟨1, ⟨#[]⟩, y⟩], c.wf := fun c hc => by
                rcases List.mem_append.1 hc with h | h
                · exact hwf.out c h
                · rw [List.mem_singleton.1 h]; exact wf_small (by omega) (by omega) (by omega) (by omega) (by decide)
              have hsk2 := skip_snoc hsk.out hq0 (y := ⟨1, ⟨#[]⟩, y⟩) (ok_var hy1.1 hy1.2)
              rw [show (⟨1, ⟨#[]⟩, y⟩ : C).ar = 0 from rfl] at hsk2
              have Hwf2 := Lib.hid hwf2
              have Hsk2 := Lib.hid hsk2
              clear hwf hsk hwf2 hsk2 hown hb hb2
              go_wp2
              go_roundw
              case rel => exact ⟨q' - 1, out.length + 1, out.length + 1, cap2, A2, out ++ [⟨1, ⟨#[]⟩, y⟩], (by first | (congr 1; omega) | (congr 1; unfold wrap64; omega)), (by subst hk; go_num), (by rw [hk]), by simp, rfl, by omega, .inr (by rw [hk]; exact hown1), Hwf2, Lib.hid (fun r => by rw [Hsk2.out r]; congr 1; omega), hb3⟩
              case measure => simp; omega
            have b1 : (kb == 1) = false := by simpa using h1
            by_cases h2 : kb = 2
            · have b2 : (kb == 2) = true := by simpa using h2
              clear h1 h2
              have hy1 : -2147483647 ≤ v16 - 30000 ∧ v16 - 30000 ≤ 2147483647 := by omega
              clear hmb
              go_upto_region 17 with fail
              clear hkb hv16 hv hm3 b1 b2
              go_upto_region 6 with (at_builtin; go_must (refine wpList_append_own0 rfl (.tmp 107) (.tmp 109) 22 rfl w.heap.size 66 Tryd.underlying22 infoC rfl (by omega) rfl (hown.below (((Below.refl _ _).alloc (Nat.le_refl _) _).alloc (by simp) _)) rfl (Sl.lit _ _ (flatC [⟨2, ⟨#[]⟩, v16 - 30000⟩]) 66 3 1 (by first | rfl | simp) rfl (by simp [maxLen])) (oneCs [⟨2, ⟨#[]⟩, v16 - 30000⟩]) (by omega) (by omega) (by omega) (by have := hb.size; simp; omega) ?_); intro A2 cap2 w2 hown1 hb2)
              have hb3 : Below w.heap.size w w2 := ((hb.alloc hb.size _).alloc (by have := hb.size; simp; omega) _).trans hb2
              rw [← flatC_append] at hown1
              have hwf2 : ∀ c ∈ out ++ [⟨2, ⟨#[]⟩, v16 - 30000⟩], c.wf := fun c hc => by
                rcases List.mem_append.1 hc with h | h
                · exact hwf.out c h
                · rw [List.mem_singleton.1 h]; exact wf_small (by omega) (by omega) (by omega) (by omega) (by decide)
              have hsk2 := skip_snoc hsk.out hq0 (y := ⟨2, ⟨#[]⟩, v16 - 30000⟩) (ok_int hy1.1 hy1.2)
              rw [show (⟨2, ⟨#[]⟩, v16 - 30000⟩ : C).ar = 0 from rfl] at hsk2
              have Hwf2 := Lib.hid hwf2
              have Hsk2 := Lib.hid hsk2
              clear hwf hsk hwf2 hsk2 hown hb hb2
              go_wp2
              go_roundw
              case rel => exact ⟨q' - 1, out.length + 1, out.length + 1, cap2, A2, out ++ [⟨2, ⟨#[]⟩, v16 - 30000⟩], (by first | (congr 1; omega) | (congr 1; unfold wrap64; omega)), (by subst hk; go_num), (by rw [hk]), by simp, rfl, by omega, .inr (by rw [hk]; exact hown1), Hwf2, Lib.hid (fun r => by rw [Hsk2.out r]; congr 1; omega), hb3⟩
              case measure => simp; omega
            have b2 : (kb == 2) = false := by simpa using h2
            clear h1 h2 hv16 hv
            by_cases hfit : k + q' + m ≤ most
            · have d1 : decide ((k : Int) + (q' : Int) + (m : Int) ≤ (most : Int)) = true := by clear hkb hmb; exact decide_eq_true (by omega)
              have d2 : decide (k + q' + m ≤ most) = true := decide_eq_true hfit
              have Hfit := Lib.hid hfit
              clear hfit
              go_upto_region 13 with fail
              have hwz := hb.size
              refine onW (fun X => Below wr.heap.size wr X ∧ X.heap[wr.heap.size]? = some (.cells #[.int .i64 3, .string ⟨#[91, 93]⟩, .int .i64 0] 66 (0, 0))) ⟨(Below.refl _ _).alloc (Nat.le_refl _) _, alloc_at rfl⟩ ?_
              rintro X ⟨hbX, xb⟩
              have xl := block_lt xb
              have hxs := hxw.name
              have hbne : bt ≠ wr.heap.size := by omega
              have hbne2 : wr.heap.size ≠ bt := by omega
              have s1 := (hbX.cell (p := ⟨bt, off + k * 3 + 1, none⟩) hbt2).trans c1
              have s2 := (hbX.cell (p := ⟨bt, off + k * 3 + 2, none⟩) hbt2).trans c2
              have hbtX : bt < X.heap.size := Nat.lt_of_lt_of_le hbt2 hbX.size
              have Hs := Lib.hid (And.intro hkq (And.intro hk (And.intro hq0 hm3)))
              have HbX := Lib.hid hbX
              have Hb := Lib.hid hb
              clear hkq hk hq0 hqd hind hm3 b1 b2 d1 d2 hb hbX c0 c1 c2 hkb
              go_region_held3 (fun w' => w'.cell? ⟨bt, off + k * 3 + 1, none⟩ = some (.string x.name) ∧ w'.cell? ⟨bt, off + k * 3 + 2, none⟩ = some (.int .i64 x.n))
                (go_keep)
                (first
                  | (go_at_call 37; refine (rname6_any x.name hxs _).mono ?_; rintro e w6 ⟨nm, rfl, hnm, hb6⟩; have u1 := (hb6.cell (p := ⟨bt, off + k * 3 + 1, none⟩) hbtX).trans s1; have u2 := (hb6.cell (p := ⟨bt, off + k * 3 + 2, none⟩) hbtX).trans s2; have xb6 := (hb6.block wr.heap.size xl).trans xb; have v0 := cells_of xb6 0; have v1 := cells_of xb6 1; have v2 := cells_of xb6 2; have g0 := frozenOf xb6 0; have g1 := frozenOf xb6 1; have g2 := frozenOf xb6 2; have xl6 := block_lt xb6; simp at v0 v1 v2)
                  | fail)
              all_goals
                have hb6' : Below wr.heap.size wr w6 := HbX.out.trans ((((Below.refl X.heap.size X).drew).trans hb6).mono HbX.out.size)
                have xbn := set3 xb6 (.int .i64 3) (.string nm) (.int .i64 (m : Int))
                have hbY0 : Below wr.heap.size wr (((w6.setCell ⟨wr.heap.size, 0, none⟩ (.int .i64 3)).setCell ⟨wr.heap.size, 1, none⟩ (.string nm)).setCell ⟨wr.heap.size, 2, none⟩ (.int .i64 (m : Int))) := ((hb6'.setCell (p := ⟨wr.heap.size, 0, none⟩) (Nat.le_refl _) _).setCell (p := ⟨wr.heap.size, 1, none⟩) (Nat.le_refl _) _).setCell (p := ⟨wr.heap.size, 2, none⟩) (Nat.le_refl _) _
                refine onW (fun Y => Below wr.heap.size wr Y ∧ Y.heap[wr.heap.size]? = some (.cells #[.int .i64 3, .string nm, .int .i64 (m : Int)] 66 (0, 0))) ⟨hbY0, xbn⟩ ?_
                clear xbn hbY0 hb6' xb6 v0 v1 v2 g0 g1 g2 xl6 u1 u2 s1 s2 hb6 xb xl HbX
                rintro Y ⟨hbY, yb⟩
                obtain ⟨hkq, hk, hq0, hm3⟩ := Hs.out
                have yl := block_lt yb
                have y0 := cells_of yb 0
                have y1 := cells_of yb 1
                have y2 := cells_of yb 2
                simp at y0 y1 y2
                have hb := Hb.out
                have hownY := hown.below hbY
                have hbYw : Below w.heap.size w Y := hb.trans (hbY.mono hwz)
                have HownY := Lib.hid hownY
                have HbY := Lib.hid hbYw
                have hwY := hbYw.size
                clear hmb hown hbY hb Hb hownY hbYw hwz
                go_upto_region 16 with fail
                go_upto_region 17 with fail
                clear hkq hk hm3
                go_upto_region 6 with (at_builtin; go_must (refine wpList_append_own0 rfl (.tmp 107) (.tmp 109) 22 rfl w.heap.size 66 Tryd.underlying22 infoC rfl (by omega) rfl (HownY.out.below ((Below.refl _ _).alloc (Nat.le_refl _) _)) rfl (Sl.lit _ _ (flatC [⟨3, nm, (m : Int)⟩]) 66 3 1 (by first | rfl | simp) rfl (by simp [maxLen])) (oneCs [⟨3, nm, (m : Int)⟩]) (by omega) (by have := Hs.out; omega) (by omega) (by simp; omega) ?_); intro A2 cap2 w2 hown1 hb2)
                obtain ⟨hkq, hk, hq0, hm3⟩ := Hs.out
                have hfit := Hfit.out
                have hb3 : Below w.heap.size w w2 := (HbY.out.alloc hwY _).trans hb2
                rw [← flatC_append] at hown1
                have hnm2 : nm.size ≤ 12 := okName_le hnm
                have hwf2 : ∀ c ∈ out ++ [⟨3, nm, (m : Int)⟩], c.wf := fun c hc => by
                  rcases List.mem_append.1 hc with h | h
                  · exact hwf.out c h
                  · rw [List.mem_singleton.1 h]; exact wf_small (by omega) (by omega) (by omega) (by omega) hnm2
                have hsk2 := skip_snoc hsk.out hq0 (y := ⟨3, nm, (m : Int)⟩) (ok_fn hnm (by omega))
                rw [show (⟨3, nm, (m : Int)⟩ : C).ar = m by simp [C.ar]] at hsk2
                have Hwf2 := Lib.hid hwf2
                have Hsk2 := Lib.hid hsk2
                clear hwf hsk hwf2 hsk2 HownY hb2
                go_wp2
                go_roundw
                case rel => exact ⟨q' - 1 + m, out.length + 1, out.length + 1, cap2, A2, out ++ [⟨3, nm, (m : Int)⟩], (by first | (congr 1; omega) | (congr 1; unfold wrap64; omega)), (by subst hk; go_num), (by rw [hk]), by simp, rfl, by omega, .inr (by rw [hk]; exact hown1), Hwf2, Lib.hid (fun r => by rw [Hsk2.out r]; congr 1; omega), hb3⟩
                case measure => simp; omega
            · have d1 : decide ((k : Int) + (q' : Int) + (m : Int) ≤ (most : Int)) = false := by clear hkb hmb; exact decide_eq_false (by omega)
              have d2 : decide (k + q' + m ≤ most) = false := decide_eq_false hfit
              clear hfit
              go_upto_region 15 with fail
              have Hs := Lib.hid (And.intro hkq (And.intro hk hq0))
              clear hkb hmb hkq hk hq0 hqd hin hind hm3 b1 b2 d1 d2
              go_upto_region 17 with fail
              obtain ⟨hkq, hk, hq0⟩ := Hs.out
              go_upto_region 6 with (at_builtin; go_must (refine wpList_append_own0 rfl (.tmp 107) (.tmp 109) 22 rfl w.heap.size 66 Tryd.underlying22 infoC rfl (by omega) rfl (hown.below (((Below.refl _ _).alloc (Nat.le_refl _) _).alloc (by simp) _)) rfl (Sl.lit _ _ (flatC [⟨3, ⟨#[91, 93]⟩, 0⟩]) 66 3 1 (by first | rfl | simp) rfl (by simp [maxLen])) (oneCs [⟨3, ⟨#[91, 93]⟩, 0⟩]) (by omega) (by omega) (by omega) (by have := hb.size; simp; omega) ?_); intro A2 cap2 w2 hown1 hb2)
              have hb3 : Below w.heap.size w w2 := ((hb.alloc hb.size _).alloc (by have := hb.size; simp; omega) _).trans hb2
              rw [← flatC_append] at hown1
              have hwf2 : ∀ c ∈ out ++ [⟨3, ⟨#[91, 93]⟩, 0⟩], c.wf := fun c hc => by
                rcases List.mem_append.1 hc with h | h
                · exact hwf.out c h
                · rw [List.mem_singleton.1 h]; exact wf_small (by omega) (by omega) (by omega) (by omega) (by decide)
              have hsk2 := skip_snoc hsk.out hq0 (y := ⟨3, ⟨#[91, 93]⟩, 0⟩) (ok_fn (m := 0) (by decide) (by omega))
              rw [show (⟨3, ⟨#[91, 93]⟩, 0⟩ : C).ar = 0 from rfl] at hsk2
              have Hwf2 := Lib.hid hwf2
              have Hsk2 := Lib.hid hsk2
              clear hwf hsk hwf2 hsk2 hown hb hb2
              go_wp2
              go_roundw
              case rel => exact ⟨q' - 1, out.length + 1, out.length + 1, cap2, A2, out ++ [⟨3, ⟨#[91, 93]⟩, 0⟩], (by first | (congr 1; omega) | (congr 1; unfold wrap64; omega)), (by subst hk; go_num), (by rw [hk]), by simp, rfl, by omega, .inr (by rw [hk]; exact hown1), Hwf2, Lib.hid (fun r => by rw [Hsk2.out r]; congr 1; omega), hb3⟩
              case measure => simp; omega
          · have hind : decide ((k : Int) < (n : Int)) = false := decide_eq_false (by omega)
            go_upto_region 15 with fail
            have Hs := Lib.hid (And.intro hkq (And.intro hk hq0))
            clear hkq hk hq0 hqd hin hind
            go_upto_region 17 with fail
            obtain ⟨hkq, hk, hq0⟩ := Hs.out
            go_upto_region 6 with (at_builtin; go_must (refine wpList_append_own0 rfl (.tmp 107) (.tmp 109) 22 rfl w.heap.size 66 Tryd.underlying22 infoC rfl (by omega) rfl (hown.below (((Below.refl _ _).alloc (Nat.le_refl _) _).alloc (by simp) _)) rfl (Sl.lit _ _ (flatC [⟨3, ⟨#[91, 93]⟩, 0⟩]) 66 3 1 (by first | rfl | simp) rfl (by simp [maxLen])) (oneCs [⟨3, ⟨#[91, 93]⟩, 0⟩]) (by omega) (by omega) (by omega) (by have := hb.size; simp; omega) ?_); intro A2 cap2 w2 hown1 hb2)
            have hb3 : Below w.heap.size w w2 := ((hb.alloc hb.size _).alloc (by have := hb.size; simp; omega) _).trans hb2
            rw [← flatC_append] at hown1
            have hwf2 : ∀ c ∈ out ++ [⟨3, ⟨#[91, 93]⟩, 0⟩], c.wf := fun c hc => by
              rcases List.mem_append.1 hc with h | h
              · exact hwf.out c h
              · rw [List.mem_singleton.1 h]; exact wf_small (by omega) (by omega) (by omega) (by omega) (by decide)
            have hsk2 := skip_snoc hsk.out hq0 (y := ⟨3, ⟨#[91, 93]⟩, 0⟩) (ok_fn (m := 0) (by decide) (by omega))
            rw [show (⟨3, ⟨#[91, 93]⟩, 0⟩ : C).ar = 0 from rfl] at hsk2
            have Hwf2 := Lib.hid hwf2
            have Hsk2 := Lib.hid hsk2
            clear hwf hsk hwf2 hsk2 hown hb hb2
            go_wp2
            go_roundw
            case rel => exact ⟨q' - 1, out.length + 1, out.length + 1, cap2, A2, out ++ [⟨3, ⟨#[91, 93]⟩, 0⟩], (by first | (congr 1; omega) | (congr 1; unfold wrap64; omega)), (by subst hk; go_num), (by rw [hk]), by simp, rfl, by omega, .inr (by rw [hk]; exact hown1), Hwf2, Lib.hid (fun r => by rw [Hsk2.out r]; congr 1; omega), hb3⟩
            case measure => simp; omega
        · obtain rfl : q' = 0 := by omega
          have hsk0 := hsk.out []
          rw [List.append_nil, skip_zero] at hsk0
          have hr : rightB out = true := by
            rw [right_iff]
            exact ⟨hsk0, by omega⟩
          obtain ⟨T, t1, t2, t3⟩ := right_tree hr
          have hsl := hown.sl (by omega)
          have hIc : IsC wr A' k c out := ⟨hsl, hwf.out⟩
          have hsz : T.size ≤ most := by rw [← flat_size, t2]; omega
          have HI := Lib.hid hIc
          have Hb := Lib.hid hb
          have hk0 : 0 < k := by have := T.size_pos; rw [← flat_size, t2] at this; omega
          have hat : At0 w A n A' := fun a ha => .inr (hown.ge hk0 a ha)
          have Hat := Lib.hid hat
          clear hsk hsk0 hr hown hsl hIc hb hwf hat hk0
          go_wp2
          go_ret
          exact ⟨T, A', k, c, rfl, t1, hsz, by rw [t2]; exact HI.out, Hb.out, Hat.out⟩
end Go.Proofs.YtekdcmplcjgonaaDoor
