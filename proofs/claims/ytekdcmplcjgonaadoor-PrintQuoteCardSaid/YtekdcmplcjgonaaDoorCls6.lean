/- The walk that makes clauses of any ones. -/
import Derived.Deep.CutBlock
import Derived.Test.YtekdcmplcjgonaaDoorRG
import Derived.Test.YtekdcmplcjgonaaDoorB0
set_option linter.unusedVariables false
set_option linter.unusedSimpArgs false
namespace Go.Proofs.YtekdcmplcjgonaaDoor
open Go.RowKit

theorem infoLit : (Tryd.prog.info? 54).map (fun i => (i.zero, i.size, i.bytes)) = some (some (.agg #[.bool false, .slice none 0 0]), 2, 32) := by kernel_rfl
theorem infoCl : (Tryd.prog.info? 33).map (fun i => (i.zero, i.size, i.bytes)) = some (some (.agg #[.slice none 0 0, .slice none 0 0]), 2, 48) := by kernel_rfl
theorem oneL (p : Bool) (A : Option Addr) (n c : Nat) : ∀ u ∈ [Value.bool p, .slice A n c], u.oneCell' = true := by
  intro u hu
  simp at hu
  rcases hu with rfl | rfl <;> rfl
theorem oneCl (A B : Option Addr) (n c m d : Nat) : ∀ u ∈ [Value.slice A n c, .slice B m d], u.oneCell' = true := by
  intro u hu
  simp at hu
  rcases hu with rfl | rfl <;> rfl
theorem set_blk {w : World} {b k : Nat} {cs : Array Value} {t : TypeId} (h : w.heap[b]? = some (.cells cs t (0, 0))) (v : Value) : (w.setCell ⟨b, k, none⟩ v).heap[b]? = some (.cells (cs.setIfInBounds k v) t (0, 0)) := by
  simp [World.setCell, Array.getElem?_modify, h]
theorem apart_set {w : World} {g k : Nat} (v : Value) (hg : g < w.heap.size) : Apart w (w.setCell ⟨g, k, none⟩ v) (some ⟨g, 0, none⟩) (some ⟨g, 0, none⟩) :=
  ⟨by simp, fun q hq hne => RowKit.Below.heap_setCell _ _ _ _ (fun e => hne _ rfl e.symm), fun a ha => by cases ha; exact ⟨by simpa using hg, .inl ⟨_, rfl, rfl⟩⟩⟩
theorem rowG_set {P : Nat → Prop} {w : World} {base g k n c : Nat} {e : TypeId} {A : Option Addr} {xs : List (Bool × Tm)} (h : RowG (RLu P) 2 e w base A n c xs) (hP : ∀ q, P q → q ≠ g) (hg : g < base) (hgw : g < w.heap.size) (v : Value) : RowG (RLu P) 2 e (w.setCell ⟨g, k, none⟩ v) base A n c xs := by
  obtain ⟨vs, h1, h2, h3, h4⟩ := h.rows
  refine ⟨h.len, fun a ha => ⟨(h.own a ha).1, by simpa using (h.own a ha).2⟩, vs, h1, h2, ?_, fun i x u hx hu => ?_⟩
  · rcases h3 with h3 | h3
    · exact .inl h3
    · exact .inr (ownsRow_setCell_below (a := ⟨g, k, none⟩) h3 hg v)
  · obtain ⟨A', n', c', e1, e2, e3, e4⟩ := h4 i x u hx hu
    exact ⟨A', n', c', e1, e2.apart (apart_set v hgw) (fun a b ha hb => by cases ha; exact fun e => hP _ (e4 b hb) e.symm), ⟨e3.1, fun a ha => by simpa using e3.2 a ha⟩, e4⟩
/-- how a made literal, and a made clause, is -/
def okL6 (p : Bool × Tm) : Prop := p.2.ok = true ∧ p.2.size ≤ 12 ∧ p.2.c0.kind = 3
def okC6 (c : Tm × List (Bool × Tm)) : Prop := c.1.ok = true ∧ c.1.size ≤ 12 ∧ c.1.c0.kind = 3 ∧ (∀ p ∈ c.2, okL6 p) ∧ c.2.length ≤ 4
def RetCls (w : World) (e : Ending) (w' : World) : Prop := ∃ (cs : List (Tm × List (Bool × Tm))) (A : Option Addr) (n c : Nat), e = .returned (.slice A n c) ∧ IsG RC 2 w' A n c cs ∧ (∀ x ∈ cs, okC6 x) ∧ n ≤ 6 ∧ Below w.heap.size w w'
set_option maxRecDepth 100000 in
set_option maxHeartbeats 8000000 in
theorem rClauses6_any (B : Option Addr) (m d : Nat) (ls : List (List C × List (Bool × List C))) (w : World) (hB : IsRs w B m d ls) : Calls Tryd.prog 13 #[.slice B m d, .int .i64 6] w (RetCls w) := by
  have hlen := hB.len
  have hcap := hB.cap_le
  have HB := Lib.hid hB
  clear hB
  go_enter Tryd.func13, Tryd.ntmps13
  go_wp2
  go_loopw [5, 6] (fun ov iv wr => ∃ (k c : Nat) (A : Option Addr) (cs : List (Tm × List (Bool × Tm))), iv = .int .i64 k ∧ ov = .slice A k c ∧ k ≤ m ∧ k ≤ 6 ∧ Hid (RowG RCu 2 33 wr w.heap.size A k c cs) ∧ Hid (∀ x ∈ cs, okC6 x) ∧ Below w.heap.size w wr) (fun _ iv _ => m - (intOf iv).toNat)
  case atStart => exact ⟨0, 0, _, [], rfl, rfl, Nat.zero_le _, Nat.zero_le _, Lib.hid (RowG.nil _ (fun a ha => by cases ha; simp)), Lib.hid (by simp), (Below.refl _ _).alloc (Nat.le_refl _) _⟩
  case round =>
    obtain ⟨k, c, A, cs, rfl, rfl, hk1, hk2, hrow, hcs, hb⟩ := hrel
    have hwz := hb.size
    by_cases hin : k < m ∧ k < 6
    · obtain ⟨h1, h2⟩ := hin
      have t1 : decide (k < m) = true := decide_eq_true (by omega)
      have t2 : decide ((k : Int) < 6) = true := decide_eq_true (by omega)
      obtain ⟨raw, hraw⟩ := HB.out.get h1
      obtain ⟨bq, off, v, rfl, hbq, _, ⟨A1, n1, c1, B1, m1, d1, rfl, hi1, hl1⟩, hv⟩ := HB.out.at_ hraw
      have g0' := hv 0 _ rfl
      have g1' := hv 1 _ rfl
      rw [Nat.add_zero] at g0'
      have g0 := (hb.cell (p := ⟨bq, off + k * 2, none⟩) hbq).trans g0'
      have hbq2 : bq < wr.heap.size := Nat.lt_of_lt_of_le hbq hwz
      have hat := rAtom6_any A1 n1 c1 raw.1 wr (hi1.below hb) 12 (by omega) (by omega)
      have hP1 : 0 < n1 → ∀ b, A1 = some b → b.block < w.heap.size := fun hn b hb => by
        obtain ⟨b', o', e, hlt, _⟩ := hi1.sl.cells hn
        rw [e] at hb; cases hb; exact hlt
      have HP1 := Lib.hid hP1
      have Hat := Lib.hid hat
      have Hl1 := Lib.hid hl1
      have G1 := Lib.hid g1'
      have Hb := Lib.hid hb
      clear hat hP1 hl1 g1' g0' hv hraw hi1 hb
      go_upto_region 6 with (go_at_call 32; refine Hat.out.mono ?_; rintro e w3 ⟨T, AT, nT, cT, rfl, okT, szT, kT, hiT, hb3, hat0⟩)
      have hw3 := Hb.out.trans (hb3.mono hwz)
      have hz3 := hb3.size
      have hw3z := hw3.size
      refine onW (fun X => Below w3.heap.size w3 X ∧ X.heap[w3.heap.size]? = some (.cells #[.slice AT nT cT, .slice none 0 0] 33 (0, 0))) ⟨(Below.refl _ _).alloc (Nat.le_refl _) _, alloc_at rfl⟩ ?_
      rintro X ⟨hbX, xb⟩
      obtain ⟨gc, hgc⟩ : ∃ g, w3.heap.size = g := ⟨_, rfl⟩
      have Hb3 := Lib.hid hb3
      have Hw3 := Lib.hid hw3
      have HiT := Lib.hid hiT
      have Hgc := Lib.hid hgc
      rw [hgc] at xb ⊢
      have HbX := Lib.hid hbX
      have Xb := Lib.hid xb
      have hml := Hl1.out.len
      have hmc := Hl1.out.cap_le
      have Hat0 := Lib.hid hat0
      clear hb3 hw3 hiT hgc hbX xb hat0 Hat g0
      obtain ⟨wo, hwo⟩ : ∃ z, z = wr := ⟨_, rfl⟩
      subst hwo
      go_wp2
      go_loopw [8] (fun jv wx => ∃ (j dD : Nat) (D : Option Addr) (lits : List (Bool × Tm)), jv = .int .i64 j ∧ j ≤ m1 ∧ j ≤ 4 ∧ wx.heap[gc]? = some (.cells #[.slice AT nT cT, .slice D j dD] 33 (0, 0)) ∧ Hid (RowG (RLu (fun q => (q < w.heap.size ∨ wo.heap.size ≤ q) ∧ q ≠ gc)) 2 54 wx (gc + 1) D j dD lits) ∧ Hid (∀ p ∈ lits, okL6 p) ∧ Below gc w3 wx) (fun jv _ => m1 - (intOf jv).toNat)
      case atStart => exact ⟨0, 0, none, [], rfl, Nat.zero_le _, Nat.zero_le _, Xb.out, Lib.hid (RowG.nil none (fun a ha => by cases ha)), Lib.hid (by simp), by have := HbX.out; rw [Hgc.out] at this; exact this⟩
      case round =>
        clear HbX Xb
        obtain ⟨j, dD, D, lits, rfl, hj1, hj2, hxb, hrowL, hlits, hbx⟩ := hrel
        have hcell : wr.cell? ⟨bq, off + k * 2 + 1, none⟩ = some (.slice B1 m1 d1) := (hbx.cell (p := ⟨bq, off + k * 2 + 1, none⟩) (by have := Hgc.out; simp; omega)).trans ((Hw3.out.cell (p := ⟨bq, off + k * 2 + 1, none⟩) hbq).trans G1.out)
        have hbq3 : bq < wr.heap.size := by have := hbx.size; have := Hgc.out; omega
        have hgl := block_lt hxb
        by_cases hjn : j < m1 ∧ j < 4
        · obtain ⟨j1, j2⟩ := hjn
          have t3 : decide (j < m1) = true := decide_eq_true (by omega)
          have t4 : decide ((j : Int) < 4) = true := decide_eq_true (by omega)
          obtain ⟨⟨neg, lt⟩, hlit⟩ := Hl1.out.get j1
          obtain ⟨bl, ol, vl, rfl, hbl, _, ⟨A', n', c', rfl, hil⟩, hvl⟩ := Hl1.out.at_ hlit
          have hblx : bl < gc := by have := Hgc.out; omega
          have q0' : w.cell? ⟨bl, ol + j * 2, none⟩ = some (.bool neg) := hvl 0 _ rfl
          have q1' : w.cell? ⟨bl, ol + j * 2 + 1, none⟩ = some (.slice A' n' c') := hvl 1 _ rfl
          have q0 := (hbx.cell (p := ⟨bl, ol + j * 2, none⟩) hblx).trans ((Hw3.out.cell (p := ⟨bl, ol + j * 2, none⟩) hbl).trans q0')
          have q1 := (hbx.cell (p := ⟨bl, ol + j * 2 + 1, none⟩) hblx).trans ((Hw3.out.cell (p := ⟨bl, ol + j * 2 + 1, none⟩) hbl).trans q1')
          have hblx2 : bl < wr.heap.size := by omega
          have hbqg : bq < gc := by have := Hgc.out; omega
          simp only at q0 q1 hil
          have hbx3 : Below w3.heap.size w3 wr := by have := hbx; rw [← Hgc.out] at this; exact this
          have hat := fun w' (hb' : Below wr.heap.size wr w') => rAtom6_any A' n' c' lt w' (((hil.below Hw3.out).below hbx3).below hb') 12 (by omega) (by omega)
          have Hatj := Lib.hid hat
          have hbxz := hbx.size
          have hbxg : gc ≤ wr.heap.size := by omega
          have hP0 : 0 < n' → ∀ b, A' = some b → b.block < w.heap.size := fun hn b hb => by
            obtain ⟨b', o', e, hlt, _⟩ := hil.sl.cells hn
            rw [e] at hb; cases hb; exact hlt
          have HP0 := Lib.hid hP0
          have Hbx := Lib.hid hbx
          have hDu := hrowL.out.own
          have hneD : ∀ a, D = some a → a.block ≠ gc := fun a ha => by have := (hDu a ha).1; omega
          have HneD := Lib.hid hneD
          have y0 := cells_of hxb 0
          have y1 := cells_of hxb 1
          simp at y0 y1
          have Hxb := Lib.hid hxb
          clear hat hP0 hbx hbx3 hlit hil hvl q0' q1' hDu hneD hxb y0
          go_upto_region 9 with fail
          refine region_but 25 (fun w' => w'.cell? ⟨gc, 1, none⟩ = some (.slice D j dD) ∧ w'.cell? ⟨bq, off + k * 2 + 1, none⟩ = some (.slice (some ⟨bl, ol, none⟩) m1 d1) ∧ w'.cell? ⟨bl, ol + j * 2, none⟩ = some (.bool neg) ∧ w'.cell? ⟨bl, ol + j * 2 + 1, none⟩ = some (.slice A' n' c')) (by kernel_rfl) ?_
          have hHeld : (fun w' : World => w'.cell? ⟨gc, 1, none⟩ = some (.slice D j dD) ∧ w'.cell? ⟨bq, off + k * 2 + 1, none⟩ = some (.slice (some ⟨bl, ol, none⟩) m1 d1) ∧ w'.cell? ⟨bl, ol + j * 2, none⟩ = some (.bool neg) ∧ w'.cell? ⟨bl, ol + j * 2 + 1, none⟩ = some (.slice A' n' c')) wr.drew := by simp [*]
          refine but_take (i := 0) (oi := ?oi0) (v := ?v0) ?hi0 (by kernel_rfl) (by kernel_rfl) (by kernel_rfl) (by kernel_rfl) ?hQ0 (Or.inl ⟨?hw0, ?hy0⟩) hHeld ?rest0
          case hi0 => (simp only [List.getElem?_toArray, List.getElem?_cons_succ, List.getElem?_cons_zero]; exact rfl)
          case hQ0 => exact fun _ _ _ h => h
          case hw0 => rfl
          case hy0 => (intro w hSw; (try dsimp only at hSw); go_simp <;> with_reducible rfl)
          try simp only [Act.put, List.setIfInBounds_toArray, List.set_cons_zero, List.set_cons_succ]
          refine but_take (i := 1) (oi := ?oi1) (v := ?v1) ?hi1 (by kernel_rfl) (by kernel_rfl) (by kernel_rfl) (by kernel_rfl) ?hQ1 (Or.inl ⟨?hw1, ?hy1⟩) hHeld ?rest1
          case hi1 => (simp only [List.getElem?_toArray, List.getElem?_cons_succ, List.getElem?_cons_zero]; exact rfl)
          case hQ1 => exact fun _ _ _ h => h
          case hw1 => rfl
          case hy1 => (intro w hSw; (try dsimp only at hSw); go_simp <;> with_reducible rfl)
          try simp only [Act.put, List.setIfInBounds_toArray, List.set_cons_zero, List.set_cons_succ]
          refine but_take (i := 2) (oi := ?oi2) (v := ?v2) ?hi2 (by kernel_rfl) (by kernel_rfl) (by kernel_rfl) (by kernel_rfl) ?hQ2 (Or.inl ⟨?hw2, ?hy2⟩) hHeld ?rest2
          case hi2 => (simp only [List.getElem?_toArray, List.getElem?_cons_succ, List.getElem?_cons_zero]; exact rfl)
          case hQ2 => exact fun _ _ _ h => h
          case hw2 => rfl
          case hy2 => (intro w hSw; (try dsimp only at hSw); go_simp <;> with_reducible rfl)
          try simp only [Act.put, List.setIfInBounds_toArray, List.set_cons_zero, List.set_cons_succ]
          refine but_take (i := 3) (oi := ?oi3) (v := ?v3) ?hi3 (by kernel_rfl) (by kernel_rfl) (by kernel_rfl) (by kernel_rfl) ?hQ3 (Or.inl ⟨?hw3, ?hy3⟩) hHeld ?rest3
          case hi3 => (simp only [List.getElem?_toArray, List.getElem?_cons_succ, List.getElem?_cons_zero]; exact rfl)
          case hQ3 => exact fun _ _ _ h => h
          case hw3 => rfl
          case hy3 => (intro w hSw; (try dsimp only at hSw); go_simp <;> with_reducible rfl)
          try simp only [Act.put, List.setIfInBounds_toArray, List.set_cons_zero, List.set_cons_succ]
          refine but_take (i := 4) (oi := ?oi4) (v := ?v4) ?hi4 (by kernel_rfl) (by kernel_rfl) (by kernel_rfl) (by kernel_rfl) ?hQ4 (Or.inl ⟨?hw4, ?hy4⟩) hHeld ?rest4
          case hi4 => (simp only [List.getElem?_toArray, List.getElem?_cons_succ, List.getElem?_cons_zero]; exact rfl)
          case hQ4 => exact fun _ _ _ h => h
          case hw4 => rfl
          case hy4 => (intro w hSw; (try dsimp only at hSw); go_simp <;> with_reducible rfl)
          try simp only [Act.put, List.setIfInBounds_toArray, List.set_cons_zero, List.set_cons_succ]
          refine but_take (i := 5) (oi := ?oi5) (v := ?v5) ?hi5 (by kernel_rfl) (by kernel_rfl) (by kernel_rfl) (by kernel_rfl) ?hQ5 (Or.inl ⟨?hw5, ?hy5⟩) hHeld ?rest5
          case hi5 => (simp only [List.getElem?_toArray, List.getElem?_cons_succ, List.getElem?_cons_zero]; exact rfl)
          case hQ5 => exact fun _ _ _ h => h
          case hw5 => rfl
          case hy5 => (intro w hSw; (try dsimp only at hSw); go_simp <;> with_reducible rfl)
          try simp only [Act.put, List.setIfInBounds_toArray, List.set_cons_zero, List.set_cons_succ]
          refine but_take (i := 6) (oi := ?oi6) (v := ?v6) ?hi6 (by kernel_rfl) (by kernel_rfl) (by kernel_rfl) (by kernel_rfl) ?hQ6 (Or.inl ⟨?hw6, ?hy6⟩) hHeld ?rest6
          case hi6 => (simp only [List.getElem?_toArray, List.getElem?_cons_succ, List.getElem?_cons_zero]; exact rfl)
          case hQ6 => exact fun _ _ _ h => h
          case hw6 => rfl
          case hy6 => (intro w hSw; (try dsimp only at hSw); go_simp <;> with_reducible rfl)
          try simp only [Act.put, List.setIfInBounds_toArray, List.set_cons_zero, List.set_cons_succ]
          refine but_take (i := 7) (oi := ?oi7) (v := ?v7) ?hi7 (by kernel_rfl) (by kernel_rfl) (by kernel_rfl) (by kernel_rfl) ?hQ7 (Or.inl ⟨?hw7, ?hy7⟩) hHeld ?rest7
          case hi7 => (simp only [List.getElem?_toArray, List.getElem?_cons_succ, List.getElem?_cons_zero]; exact rfl)
          case hQ7 => exact fun _ _ _ h => h
          case hw7 => rfl
          case hy7 => (intro w hSw; (try dsimp only at hSw); go_simp <;> with_reducible rfl)
          try simp only [Act.put, List.setIfInBounds_toArray, List.set_cons_zero, List.set_cons_succ]
          refine but_take (i := 8) (oi := ?oi8) (v := ?v8) ?hi8 (by kernel_rfl) (by kernel_rfl) (by kernel_rfl) (by kernel_rfl) ?hQ8 (Or.inl ⟨?hw8, ?hy8⟩) hHeld ?rest8
          case hi8 => (simp only [List.getElem?_toArray, List.getElem?_cons_succ, List.getElem?_cons_zero]; exact rfl)
          case hQ8 => exact fun _ _ _ h => h
          case hw8 => rfl
          case hy8 => (intro w hSw; (try dsimp only at hSw); go_simp <;> with_reducible rfl)
          try simp only [Act.put, List.setIfInBounds_toArray, List.set_cons_zero, List.set_cons_succ]
          refine but_take (i := 9) (oi := ?oi9) (v := ?v9) ?hi9 (by kernel_rfl) (by kernel_rfl) (by kernel_rfl) (by kernel_rfl) ?hQ9 (Or.inl ⟨?hw9, ?hy9⟩) hHeld ?rest9
          case hi9 => (simp only [List.getElem?_toArray, List.getElem?_cons_succ, List.getElem?_cons_zero]; exact rfl)
          case hQ9 => exact fun _ _ _ h => h
          case hw9 => rfl
          case hy9 => (intro w hSw; (try dsimp only at hSw); go_simp <;> with_reducible rfl)
          try simp only [Act.put, List.setIfInBounds_toArray, List.set_cons_zero, List.set_cons_succ]
          refine but_take (i := 10) (oi := ?oi10) (v := ?v10) ?hi10 (by kernel_rfl) (by kernel_rfl) (by kernel_rfl) (by kernel_rfl) ?hQ10 (Or.inl ⟨?hw10, ?hy10⟩) hHeld ?rest10
          case hi10 => (simp only [List.getElem?_toArray, List.getElem?_cons_succ, List.getElem?_cons_zero]; exact rfl)
          case hQ10 => exact fun _ _ _ h => h
          case hw10 => rfl
          case hy10 => (intro w hSw; (try dsimp only at hSw); go_simp <;> with_reducible rfl)
          try simp only [Act.put, List.setIfInBounds_toArray, List.set_cons_zero, List.set_cons_succ]
          refine but_take (i := 11) (oi := ?oi11) (v := ?v11) ?hi11 (by kernel_rfl) (by kernel_rfl) (by kernel_rfl) (by kernel_rfl) ?hQ11 (Or.inl ⟨?hw11, ?hy11⟩) hHeld ?rest11
          case hi11 => (simp only [List.getElem?_toArray, List.getElem?_cons_succ, List.getElem?_cons_zero]; exact rfl)
          case hQ11 => exact fun _ _ _ h => h
          case hw11 => rfl
          case hy11 => (intro w hSw; (try dsimp only at hSw); go_simp <;> with_reducible rfl)
          try simp only [Act.put, List.setIfInBounds_toArray, List.set_cons_zero, List.set_cons_succ]
          refine but_take (i := 12) (oi := ?oi12) (v := ?v12) ?hi12 (by kernel_rfl) (by kernel_rfl) (by kernel_rfl) (by kernel_rfl) ?hQ12 (Or.inl ⟨?hw12, ?hy12⟩) hHeld ?rest12
          case hi12 => (simp only [List.getElem?_toArray, List.getElem?_cons_succ, List.getElem?_cons_zero]; exact rfl)
          case hQ12 => exact fun _ _ _ h => h
          case hw12 => rfl
          case hy12 => (intro w hSw; (try dsimp only at hSw); go_simp <;> with_reducible rfl)
          try simp only [Act.put, List.setIfInBounds_toArray, List.set_cons_zero, List.set_cons_succ]
          refine but_take (i := 13) (oi := ?oi13) (v := ?v13) ?hi13 (by kernel_rfl) (by kernel_rfl) (by kernel_rfl) (by kernel_rfl) ?hQ13 (Or.inl ⟨?hw13, ?hy13⟩) hHeld ?rest13
          case hi13 => (simp only [List.getElem?_toArray, List.getElem?_cons_succ, List.getElem?_cons_zero]; exact rfl)
          case hQ13 => exact fun _ _ _ h => h
          case hw13 => rfl
          case hy13 => (intro w hSw; (try dsimp only at hSw); go_simp <;> with_reducible rfl)
          try simp only [Act.put, List.setIfInBounds_toArray, List.set_cons_zero, List.set_cons_succ]
          refine but_take (i := 14) (oi := ?oi14) (v := ?v14) ?hi14 (by kernel_rfl) (by kernel_rfl) (by kernel_rfl) (by kernel_rfl) ?hQ14 (Or.inl ⟨?hw14, ?hy14⟩) hHeld ?rest14
          case hi14 => (simp only [List.getElem?_toArray, List.getElem?_cons_succ, List.getElem?_cons_zero]; exact rfl)
          case hQ14 => exact fun _ _ _ h => h
          case hw14 => rfl
          case hy14 => (intro w hSw; (try dsimp only at hSw); go_simp <;> with_reducible rfl)
          try simp only [Act.put, List.setIfInBounds_toArray, List.set_cons_zero, List.set_cons_succ]
          refine but_take (i := 15) (oi := ?oi15) (v := ?v15) ?hi15 (by kernel_rfl) (by kernel_rfl) (by kernel_rfl) (by kernel_rfl) ?hQ15 (Or.inl ⟨?hw15, ?hy15⟩) hHeld ?rest15
          case hi15 => (simp only [List.getElem?_toArray, List.getElem?_cons_succ, List.getElem?_cons_zero]; exact rfl)
          case hQ15 => exact fun _ _ _ h => h
          case hw15 => rfl
          case hy15 => (intro w hSw; (try dsimp only at hSw); go_simp <;> with_reducible rfl)
          try simp only [Act.put, List.setIfInBounds_toArray, List.set_cons_zero, List.set_cons_succ]
          refine but_take (i := 16) (oi := ?oi16) (v := ?v16) ?hi16 (by kernel_rfl) (by kernel_rfl) (by kernel_rfl) (by kernel_rfl) ?hQ16 (Or.inl ⟨?hw16, ?hy16⟩) hHeld ?rest16
          case hi16 => (simp only [List.getElem?_toArray, List.getElem?_cons_succ, List.getElem?_cons_zero]; exact rfl)
          case hQ16 => exact fun _ _ _ h => h
          case hw16 => rfl
          case hy16 => (intro w hSw; (try dsimp only at hSw); go_simp <;> with_reducible rfl)
          try simp only [Act.put, List.setIfInBounds_toArray, List.set_cons_zero, List.set_cons_succ]
          refine but_take (i := 17) (oi := ?oi17) (v := ?v17) ?hi17 (by kernel_rfl) (by kernel_rfl) (by kernel_rfl) (by kernel_rfl) ?hQ17 (Or.inl ⟨?hw17, ?hy17⟩) hHeld ?rest17
          case hi17 => (simp only [List.getElem?_toArray, List.getElem?_cons_succ, List.getElem?_cons_zero]; exact rfl)
          case hQ17 => exact fun _ _ _ h => h
          case hw17 => rfl
          case hy17 => (intro w hSw; (try dsimp only at hSw); go_simp <;> with_reducible rfl)
          try simp only [Act.put, List.setIfInBounds_toArray, List.set_cons_zero, List.set_cons_succ]
          refine but_take (i := 18) (oi := ?oi18) (v := ?v18) ?hi18 (by kernel_rfl) (by kernel_rfl) (by kernel_rfl) (by kernel_rfl) ?hQ18 (Or.inl ⟨?hw18, ?hy18⟩) hHeld ?rest18
          case hi18 => (simp only [List.getElem?_toArray, List.getElem?_cons_succ, List.getElem?_cons_zero]; exact rfl)
          case hQ18 => exact fun _ _ _ h => h
          case hw18 => rfl
          case hy18 => (intro w hSw; (try dsimp only at hSw); go_simp <;> with_reducible rfl)
          try simp only [Act.put, List.setIfInBounds_toArray, List.set_cons_zero, List.set_cons_succ]
          refine but_take (i := 19) (oi := ?oi19) (v := ?v19) ?hi19 (by kernel_rfl) (by kernel_rfl) (by kernel_rfl) (by kernel_rfl) ?hQ19 (Or.inl ⟨?hw19, ?hy19⟩) hHeld ?rest19
          case hi19 => (simp only [List.getElem?_toArray, List.getElem?_cons_succ, List.getElem?_cons_zero]; exact rfl)
          case hQ19 => exact fun _ _ _ h => h
          case hw19 => rfl
          case hy19 => (intro w hSw; (try dsimp only at hSw); go_simp <;> with_reducible rfl)
          try simp only [Act.put, List.setIfInBounds_toArray, List.set_cons_zero, List.set_cons_succ]
          refine but_one (i := 20) (o := ?oi20) (by kernel_rfl) ?hi20 (fun K hK => ?rest20)
          case hi20 => (simp only [List.getElem?_toArray, List.getElem?_cons_succ, List.getElem?_cons_zero]; exact rfl)
          go_simp
          go_at_call 32
          refine (Hatj.out _ ((Below.refl _ _).drew)).mono ?_
          rintro e8 w8 ⟨U, A8, n8, c8, rfl, okU, szU, kU, hiU, hb8, hat8⟩
          have hb8' : Below wr.heap.size wr w8 := ((Below.refl _ _).drew).trans hb8
          have hz8 := hb8'.size
          have x8 := (hb8'.block gc hgl).trans Hxb.out
          have k1 := cells_of x8 1
          have kf := frozenOf x8 1
          have kl := block_lt x8
          have r1 := (hb8'.cell (p := ⟨bq, off + k * 2 + 1, none⟩) hbq3).trans hcell
          have r2 := (hb8'.cell (p := ⟨bl, ol + j * 2, none⟩) hblx2).trans q0
          have r3 := (hb8'.cell (p := ⟨bl, ol + j * 2 + 1, none⟩) hblx2).trans q1
          simp at k1
          have Hb8 := Lib.hid hb8'
          have HiU := Lib.hid hiU
          have Hat8 := Lib.hid hat8
          clear hb8 hb8' hiU hat8
          try go_simp
          have hHeld8 : (fun w' : World => w'.cell? ⟨gc, 1, none⟩ = some (.slice D j dD) ∧ w'.cell? ⟨bq, off + k * 2 + 1, none⟩ = some (.slice (some ⟨bl, ol, none⟩) m1 d1) ∧ w'.cell? ⟨bl, ol + j * 2, none⟩ = some (.bool neg) ∧ w'.cell? ⟨bl, ol + j * 2 + 1, none⟩ = some (.slice A' n' c')) w8 := ⟨k1, r1, r2, r3⟩
          refine hK _ _ (.inr hHeld8) ?_
          clear hK K hHeld
          have hHeld := hHeld8
          clear hHeld8
          try simp only [Act.put, List.setIfInBounds_toArray, List.set_cons_zero, List.set_cons_succ]
          refine but_take (i := 21) (oi := ?oi21) (v := ?v21) ?hi21 (by kernel_rfl) (by kernel_rfl) (by kernel_rfl) (by kernel_rfl) ?hQ21 (Or.inl ⟨?hw21, ?hy21⟩) hHeld ?rest21
          case hi21 => (simp only [List.getElem?_toArray, List.getElem?_cons_succ, List.getElem?_cons_zero]; exact rfl)
          case hQ21 => exact fun _ _ _ h => h
          case hw21 => rfl
          case hy21 => (intro w hSw; (try dsimp only at hSw); go_simp <;> with_reducible rfl)
          try simp only [Act.put, List.setIfInBounds_toArray, List.set_cons_zero, List.set_cons_succ]
          refine but_one (i := 22) (o := ?oi22) (by kernel_rfl) ?hi22 (fun K hK => ?rest22)
          case hi22 => (simp only [List.getElem?_toArray, List.getElem?_cons_succ, List.getElem?_cons_zero]; exact rfl)
          go_simp
          have hHeld8 : (fun w' : World => w'.cell? ⟨gc, 1, none⟩ = some (.slice D j dD) ∧ w'.cell? ⟨bq, off + k * 2 + 1, none⟩ = some (.slice (some ⟨bl, ol, none⟩) m1 d1) ∧ w'.cell? ⟨bl, ol + j * 2, none⟩ = some (.bool neg) ∧ w'.cell? ⟨bl, ol + j * 2 + 1, none⟩ = some (.slice A' n' c')) (w8.alloc (.cells #[.bool neg, .slice A8 n8 c8] 54)) := by simp [World.cell?_alloc_some, *]
          refine hK _ _ (.inr hHeld8) ?_
          clear hK K hHeld
          have hHeld := hHeld8
          clear hHeld8
          try simp only [Act.put, List.setIfInBounds_toArray, List.set_cons_zero, List.set_cons_succ]
          have hal8 : Below w8.heap.size w8 (w8.alloc (.cells #[.bool neg, .slice A8 n8 c8] 54)) := (Below.refl _ _).alloc (Nat.le_refl _) _
          obtain ⟨vs, v1, v2, v3, v4⟩ := ((hrowL.out.below (famL _) Hb8.out).below (famL _) hal8).rows
          have HownB := Lib.hid v3
          have hlL := hrowL.out.len
          clear v3
          refine but_one (i := 23) (o := ?oi23) (by kernel_rfl) ?hi23 (fun K hK => ?rest23)
          case hi23 => (simp only [List.getElem?_toArray, List.getElem?_cons_succ, List.getElem?_cons_zero]; exact rfl)
          refine step_append_ap (xs := vs.flatten) (by rfl) (.tmp 43) (.tmp 64) 31 (by rfl) (gc + 1) 54 Tryd.underlying31 infoLit (by rfl) (by omega) (by rfl) ?_ (by rfl) (news := [.bool neg, .slice A8 n8 c8]) ?_ (oneL neg A8 n8 c8) (by omega) (by omega) (by omega) (by simp; omega) ?_
          focus (exact HownB.out)
          focus (exact Sl.lit w8 _ [_, _] 54 2 1 rfl rfl (by simp [maxLen]))
          intro B9 d9 w9 hown9 hb9 hap9
          have x9 := (hap9.old gc (by simp; omega) HneD.out).trans ((alloc_past kl).trans x8)
          have l1 := cells_of x9 1
          have lf := frozenOf x9 1
          have ll := block_lt x9
          have s1 := (hb9.cell (p := ⟨bq, off + k * 2 + 1, none⟩) (by simp; omega)).trans ((hal8.cell (p := ⟨bq, off + k * 2 + 1, none⟩) (by simp; omega)).trans r1)
          have s2 := (hb9.cell (p := ⟨bl, ol + j * 2, none⟩) (by simp; omega)).trans ((hal8.cell (p := ⟨bl, ol + j * 2, none⟩) (by simp; omega)).trans r2)
          have s3 := (hb9.cell (p := ⟨bl, ol + j * 2 + 1, none⟩) (by simp; omega)).trans ((hal8.cell (p := ⟨bl, ol + j * 2 + 1, none⟩) (by simp; omega)).trans r3)
          simp at l1
          have hHeld8 : (fun w' : World => w'.cell? ⟨gc, 1, none⟩ = some (.slice D j dD) ∧ w'.cell? ⟨bq, off + k * 2 + 1, none⟩ = some (.slice (some ⟨bl, ol, none⟩) m1 d1) ∧ w'.cell? ⟨bl, ol + j * 2, none⟩ = some (.bool neg) ∧ w'.cell? ⟨bl, ol + j * 2 + 1, none⟩ = some (.slice A' n' c')) w9 := ⟨l1, s1, s2, s3⟩
          refine hK _ _ (.inr hHeld8) ?_
          clear hK K hHeld
          have hHeld := hHeld8
          clear hHeld8
          try simp only [Act.put, List.setIfInBounds_toArray, List.set_cons_zero, List.set_cons_succ]
          refine but_take (i := 24) (oi := ?oi24) (v := ?v24) ?hi24 (by kernel_rfl) (by kernel_rfl) (by kernel_rfl) (by kernel_rfl) ?hQ24 (Or.inl ⟨?hw24, ?hy24⟩) hHeld ?rest24
          case hi24 => (simp only [List.getElem?_toArray, List.getElem?_cons_succ, List.getElem?_cons_zero]; exact rfl)
          case hQ24 => exact fun _ _ _ h => h
          case hw24 => rfl
          case hy24 => (intro w hSw; (try dsimp only at hSw); go_simp <;> with_reducible rfl)
          try simp only [Act.put, List.setIfInBounds_toArray, List.set_cons_zero, List.set_cons_succ]
          refine but_one (i := 25) (o := ?oi25) (by kernel_rfl) ?hi25 (fun K hK => ?rest25)
          case hi25 => (simp only [List.getElem?_toArray, List.getElem?_cons_succ, List.getElem?_cons_zero]; exact rfl)
          go_simp
          refine hK _ _ (.inl rfl) ?_
          clear hK K hHeld
          try simp only [Act.put, List.setIfInBounds_toArray, List.set_cons_zero, List.set_cons_succ]
          refine but_done (by kernel_rfl) ?_ _
          have hrow9 := RowG.snoc (famL _) hlL v1 v2 v4 hown9 hap9 rfl (x := (neg, U)) (u := [.bool neg, .slice A8 n8 c8]) ⟨A8, n8, c8, rfl, HiU.out.below hal8, ?unb, ?pp⟩
          case unb =>
            have hown := hrowL.out.own
            refine ⟨fun a b ha hb e => ?_, fun a ha => Nat.lt_of_lt_of_le (isC_lt HiU.out a ha) (by simp)⟩
            have h1 := hown a ha
            rcases Hat8.out b hb with ⟨h5, h6⟩ | h5
            · have := HP0.out h6 b h5; have := Hgc.out; omega
            · simp at h5; omega
          case pp =>
            intro b hb
            rcases Hat8.out b hb with ⟨h5, h6⟩ | h5
            · have h7 := HP0.out h6 b h5; have := Hgc.out; exact ⟨.inl h7, by omega⟩
            · simp at h5; have := Hgc.out; exact ⟨.inr (by omega), by omega⟩
          have hrow10 := rowG_set (g := gc) (k := 1) hrow9 (fun q hq => hq.2) (by omega) ll (.slice B9 (j + 1) d9)
          have hx10 := set_blk (k := 1) x9 (.slice B9 (j + 1) d9)
          have hb10 : Below gc w3 (w9.setCell ⟨gc, 1, none⟩ (.slice B9 (j + 1) d9)) := ((((Hbx.out.trans (Hb8.out.mono hbxg)).alloc (by omega) _).trans (hb9.mono (by omega))).setCell (p := ⟨gc, 1, none⟩) (Nat.le_refl _) _)
          have hlits2 : ∀ p ∈ lits ++ [(neg, U)], okL6 p := fun p hp => by
            rcases List.mem_append.1 hp with h | h
            · exact hlits.out p h
            · rw [List.mem_singleton.1 h]; exact ⟨okU, szU, kU⟩
          have Hrow10 := Lib.hid hrow10
          have Hx10 := Lib.hid hx10
          have Hb10 := Lib.hid hb10
          have Hlits2 := Lib.hid hlits2
          clear hrow9 hrow10 hx10 hb10 hlits2 hown9 hb9 hap9 x9 x8 l1 lf ll s1 s2 s3 k1 kf kl r1 r2 r3 v1 v2 v4 hal8
          go_wp2
          go_roundw
          case rel => exact ⟨j + 1, d9, B9, lits ++ [(neg, U)], by go_num, by omega, by omega, by simpa using Hx10.out, Hrow10, Hlits2, Hb10.out⟩
          case measure => simp [intOf]; omega
        · have t34 : decide (j < m1) = false ∨ (decide (j < m1) = true ∧ decide ((j : Int) < 4) = false) := by
            by_cases h1 : j < m1
            · exact .inr ⟨decide_eq_true h1, decide_eq_false (by omega)⟩
            · exact .inl (decide_eq_false h1)
          have y0 := cells_of hxb 0
          have y1 := cells_of hxb 1
          simp at y0 y1
          have hbo : Below wo.heap.size wo wr := Hb3.out.trans (hbx.mono (by have := Hgc.out; omega))
          have hbx3 : Below w3.heap.size w3 wr := by have := hbx; rw [← Hgc.out] at this; exact this
          have hiT := HiT.out.below hbx3
          have hAo := hrow.out.own
          have hDo := hrowL.out.own
          have hbwr := Hw3.out.trans (hbx3.mono hw3z)
          have hP1 : 0 < n1 → ∀ b, A1 = some b → b.block < w.heap.size := HP1.out
          have hx : RCu A wr (T, lits) [.slice AT nT cT, .slice D j dD] := by
            refine ⟨AT, nT, cT, D, j, dD, rfl, hiT, ⟨fun a b ha hb e => ?_, fun a ha => isC_lt hiT a ha⟩, rlu_off (hrowL.out.is (by omega)) (fun a ha => ?_), ⟨fun a b ha hb e => ?_, fun a ha => (hDo a ha).2⟩⟩
            · have h1 := hAo a ha
              rcases Hat0.out b hb with ⟨h5, h6⟩ | h5
              · have := hP1 h6 b h5; omega
              · omega
            · have h1 := hAo a ha
              omega
            · have h1 := hAo a ha
              have h2 := hDo b hb
              have := Hgc.out
              omega
          have hal : Below wr.heap.size wr (wr.alloc (.cells #[.slice AT nT cT, .slice D j dD] 33)) := (Below.refl _ _).alloc (Nat.le_refl _) _
          have hxL := famC.below _ _ _ _ _ hx hal
          obtain ⟨vs, v1, v2, v3, v4⟩ := ((hrow.out.below famC hbo).below famC hal).rows
          have hlC := hrow.out.len
          have hoC : okC6 (T, lits) := ⟨okT, szT, kT, hlits.out, by have := hrowL.out.len; simp only; omega⟩
          have hcs2 : ∀ x ∈ cs ++ [(T, lits)], okC6 x := fun x hx => by
            rcases List.mem_append.1 hx with h | h
            · exact hcs.out x h
            · rw [List.mem_singleton.1 h]; exact hoC
          have hwrz := hbwr.size
          have HownC := Lib.hid v3
          have HxL := Lib.hid hxL
          have V4 := Lib.hid v4
          have V1 := Lib.hid (And.intro v1 v2)
          have Hcs2 := Lib.hid hcs2
          have Hbwr := Lib.hid hbwr
          clear v1 v2 v3 v4 hx hxL hal hcs2 hbwr hiT hAo hDo hbo hbx3 hP1 hoC hcs hlits hrowL hrow hxb hjn hbx
          rcases t34 with t3 | ⟨t3, t4⟩
          all_goals
            go_upto_region 4 with (at_builtin; go_must (refine wpList_append_own1 rfl (.tmp 67) (.tmp 69) 23 rfl w.heap.size 33 Tryd.underlying23 infoCl rfl (by omega) rfl HownC.out rfl (Sl.lit _ _ [_, _] 33 2 1 (by first | rfl | simp) rfl (by simp [maxLen])) (oneCl _ _ _ _ _ _) (by omega) (by omega) (by omega) (by simp; omega) ?_); intro A2 cap2 w5 hown5 hb5 hap5)
            have hrow5 := RowG.snoc famC hlC V1.out.1 V1.out.2 V4.out hown5 hap5 rfl HxL.out
            have hb5' := (Hbwr.out.alloc hwrz _).trans hb5
            have Hrow5 := Lib.hid hrow5
            have Hb5 := Lib.hid hb5'
            clear hown5 hb5 hap5 hrow5 hb5' HownC
            go_wp2
            go_roundw
            case rel => exact ⟨k + 1, cap2, A2, cs ++ [(T, lits)], by go_num, rfl, by omega, by omega, Hrow5, Hcs2, Hb5.out⟩
            case measure => simp [intOf]; omega
    · have t12 : decide (k < m) = false ∨ (decide (k < m) = true ∧ decide ((k : Int) < 6) = false) := by
        by_cases h1 : k < m
        · exact .inr ⟨decide_eq_true h1, decide_eq_false (by omega)⟩
        · exact .inl (decide_eq_false h1)
      have hfin : ∀ v, v = Ending.returned (.slice A k c) → RetCls w v wr := fun v hv => ⟨cs, A, k, c, hv, isRC (hrow.out.is (by omega)), hcs.out, hk2, hb⟩
      have Hfin := Lib.hid hfin
      clear hfin hrow hcs hb hin
      rcases t12 with t1 | ⟨t1, t2⟩
      all_goals
        go_wp2
        go_ret
        exact Hfin.out _ rfl
end Go.Proofs.YtekdcmplcjgonaaDoor
