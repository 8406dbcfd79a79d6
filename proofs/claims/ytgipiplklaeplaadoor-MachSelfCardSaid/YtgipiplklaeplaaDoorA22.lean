/- Texts of this proof that belong together: words of memory, plain laws, walks. -/
import Derived.Deep.RegionHeld3
import Derived.LaidEql
import Derived.Stop.IfaceNil
import Derived.Test.YtgipiplklaeplaaDoorRows
import Derived.Test.YtgipiplklaeplaaDoorA20
import Derived.Test.YtgipiplklaeplaaDoorA21
set_option linter.unusedVariables false
set_option linter.unusedSimpArgs false
namespace Go.Proofs.YtgipiplklaeplaaDoor
open Go.RowKit
structure In.wf (i : In) : Prop where
  op : i64 i.op
  x : i64 i.x
  a : i64 i.a
  n : i64 i.n
  name : i.name.size ≤ maxLen
@[reducible] def In.flat (i : In) : List Value := [.int .i64 i.op, .int .i64 i.x, .int .i64 i.a, .string i.name, .int .i64 i.n, .bool i.neg]
def In.val (i : In) : Value := .agg #[.int .i64 i.op, .int .i64 i.x, .int .i64 i.a, .string i.name, .int .i64 i.n, .bool i.neg]
def RIn : World → In → List Value → Prop := fun _ i v => v = i.flat ∧ i.wf
theorem keepsIn : Keeps RIn := fun _ _ _ _ h _ => h
theorem oneIn (i : In) : ∀ u ∈ i.flat, u.oneCell' = true := by
  intro u hu
  simp [In.flat] at hu
  rcases hu with rfl | rfl | rfl | rfl | rfl | rfl <;> rfl
abbrev IsK (w : World) (A : Option Addr) (n cap : Nat) (l : List In) : Prop := IsG RIn 6 w A n cap l
theorem IsK.at' {w : World} {A : Option Addr} {n cap : Nat} {l : List In} (h : IsK w A n cap l) {k : Nat} {i : In} (hk : l[k]? = some i) :
    ∃ b off, A = some ⟨b, off, none⟩ ∧ b < w.heap.size ∧ i.wf ∧ w.cell? ⟨b, off + k * 6, none⟩ = some (.int .i64 i.op) ∧ w.cell? ⟨b, off + k * 6 + 1, none⟩ = some (.int .i64 i.x) ∧ w.cell? ⟨b, off + k * 6 + 2, none⟩ = some (.int .i64 i.a) ∧
      w.cell? ⟨b, off + k * 6 + 3, none⟩ = some (.string i.name) ∧ w.cell? ⟨b, off + k * 6 + 4, none⟩ = some (.int .i64 i.n) ∧ w.cell? ⟨b, off + k * 6 + 5, none⟩ = some (.bool i.neg) := by
  obtain ⟨b, off, v, hA, hb, _, ⟨rfl, hw⟩, hc⟩ := h.at_ hk
  exact ⟨b, off, hA, hb, hw, hc 0 _ rfl, hc 1 _ rfl, hc 2 _ rfl, hc 3 _ rfl, hc 4 _ rfl, hc 5 _ rfl⟩
/-- a literal -/
def RLit : World → Bool × List C → List Value → Prop := fun w p v => ∃ A n c, v = [.bool p.1, .slice A n c] ∧ IsC w A n c p.2
theorem keepsLit : Keeps RLit := fun _ _ _ _ ⟨A, n, c, h1, h2⟩ hb => ⟨A, n, c, h1, h2.below hb⟩
abbrev IsLs (w : World) (A : Option Addr) (n cap : Nat) (l : List (Bool × List C)) : Prop := IsG RLit 2 w A n cap l
/-- how great a state may be -/
structure St.fit (s : St) (N : Nat) : Prop where
  code : s.code.length ≤ N
  next : s.next ≤ N
  vars : s.vars.length ≤ N
  same : s.regs.length = s.vars.length
  wf : ∀ i ∈ s.code, i.wf
  rg : ∀ r ∈ s.regs, 0 ≤ r ∧ r ≤ (N : Int)
  vr : ∀ v ∈ s.vars, i64 v
theorem i64_0 : i64 0 := ⟨by decide, by decide⟩
theorem empty_size : (⟨#[]⟩ : ByteArray).size ≤ maxLen := by decide
theorem wfI {op x a n : Int} {nm : ByteArray} {neg : Bool} (h1 : i64 op) (h2 : i64 x) (h3 : i64 a) (h4 : i64 n) (h5 : nm.size ≤ maxLen) : (⟨op, x, a, nm, n, neg⟩ : In).wf := ⟨h1, h2, h3, h4, h5⟩
structure St.room (s : St) (k : Nat) : Prop where
  code : s.code.length + k ≤ 100000
  next : s.next + k ≤ 100000
  vars : s.vars.length + k ≤ 100000
theorem St.room.le {s : St} {k j : Nat} (h : s.room k) (hj : j ≤ k) : s.room j := ⟨by have := h.code; omega, by have := h.next; omega, by have := h.vars; omega⟩
theorem room_emit {s : St} {k : Nat} (i : In) (h : s.room (k + 1)) : (s.emit i).room k := ⟨by have := h.code; simp [St.emit]; omega, by have := h.next; simp [St.emit]; omega, by have := h.vars; simp [St.emit]; omega⟩
theorem room_bump {s : St} {k : Nat} (h : s.room (k + 1)) : s.bump.room k := ⟨by have := h.code; simp [St.bump]; omega, by have := h.next; simp [St.bump]; omega, by have := h.vars; simp [St.bump]; omega⟩
theorem regF_two (s : St) (v : Int) : regF s v = (s.bump.addv v s.next, (s.next : Int), true) ∨ ∃ r, r ∈ s.regs ∧ regF s v = (s, r, false) := by
  unfold regF
  split
  · rename_i r hr _
    exact .inr ⟨r, List.mem_of_getElem? hr, rfl⟩
  · exact .inl rfl
theorem regF_code (s : St) (v : Int) : (regF s v).1.code = s.code := by
  rcases regF_two s v with h | ⟨r, _, h⟩ <;> rw [h] <;> rfl
/-- a variable, and one instruction -/
theorem room_reg {s : St} {k : Nat} (v : Int) (i : In) (h : s.room (k + 1)) : ((regF s v).1.emit i).room k := by
  have h1 := h.code
  have h2 := h.next
  have h3 := h.vars
  rcases regF_two s v with e | ⟨r, _, e⟩ <;> rw [e]
  · exact ⟨by simp [St.emit, St.addv, St.bump]; omega, by simp [St.emit, St.addv, St.bump]; omega, by simp [St.emit, St.addv, St.bump]; omega⟩
  · exact ⟨by simp [St.emit]; omega, by simp [St.emit]; omega, by simp [St.emit]; omega⟩
/-- .. and one register more, and one instruction -/
theorem room_fresh {s : St} {k : Nat} (i : In) (h : s.room (k + 1)) : (s.emit i).bump.room k :=
  ⟨by have := h.code; simp [St.emit, St.bump]; omega, by have := h.next; simp [St.emit, St.bump]; omega, by have := h.vars; simp [St.emit, St.bump]; omega⟩
theorem room_one {s : St} {k : Nat} (a b c : Int) (T : Tm) (h : s.room (k + 1)) : (oneF a b c s T).room k := by
  cases T with
  | v n => exact room_reg n _ h
  | i n => exact room_emit _ h
  | f s us => exact h.le (by omega)
theorem oneF_code (a b c : Int) (s : St) (T : Tm) : s.code.length ≤ (oneF a b c s T).code.length := by
  cases T with
  | v n => simp [oneF, St.emit, regF_code]
  | i n => simp [oneF, St.emit]
  | f s us => exact Nat.le_refl _
theorem i64_small {n : Int} (h1 : -3000000000 ≤ n) (h2 : n ≤ 3000000000) : i64 n := ⟨by omega, by omega⟩
theorem i64_nat {n : Nat} (h2 : n ≤ 3000000000) : i64 (n : Int) := ⟨by omega, by omega⟩
/-- what a variable's register may be -/
theorem regF_reg {s : St} {N : Nat} (h : s.fit N) (v : Int) (hN : N ≤ 100000) : 0 ≤ (regF s v).2.1 ∧ (regF s v).2.1 ≤ 100000 := by
  rcases regF_two s v with e | ⟨r, hr, e⟩ <;> rw [e]
  · have := h.next; exact ⟨by simp, by simp; omega⟩
  · have := h.rg r hr; exact ⟨this.1, by simp; omega⟩
theorem c0_wf {T : Tm} (h : T.ok = true) : T.c0.wf := by
  cases T with
  | v n => simp [Tm.ok] at h; exact ⟨i64_small (n := 1) (by decide) (by decide), i64_small (n := n) (by omega) (by omega), empty_size⟩
  | i n => simp [Tm.ok] at h; exact ⟨i64_small (n := 2) (by decide) (by decide), i64_small (n := n) (by omega) (by omega), empty_size⟩
  | f s us =>
    simp [Tm.ok, okName] at h
    exact ⟨i64_small (n := 3) (by decide) (by decide), i64_nat (n := us.length) (by omega), by simp [Tm.c0, maxLen]; omega⟩
end Go.Proofs.YtgipiplklaeplaaDoor
namespace Go.Proofs.YtgipiplklaeplaaDoor
open Go.RowKit
/-- a structure that was laid, or no room -/
def RetT (w : World) (base bm : Nat) (m : Mc) (s : ByteArray) (n : Nat) (e : Ending) (w' : World) : Prop :=
  if m.fits (n + 1) then e = .returned (.tuple #[.int .i64 m.l.length, .nilIface]) ∧ Mm w' base bm { m with l := m.l ++ topL m.l.length s n, next := ((m.l.length + 1 : Nat) : Int) } ∧ Below base w w' ∧ MKept w w' bm
  else e = .returned (.tuple #[.int .i64 0, errV 80]) ∧ Below base w w' ∧ MKept w w' bm
/-- the first of a structure's slots -/
def topK (p : Nat) (s : ByteArray) (n k : Nat) : List C := ⟨4, s, (n : Int)⟩ :: (List.range k).map fun i => ⟨1, emp, ((p + 1 + i : Nat) : Int)⟩
theorem topK_all (p : Nat) (s : ByteArray) (n : Nat) : topK p s n n = topL p s n := rfl
theorem topK_succ (p : Nat) (s : ByteArray) (n k : Nat) : flatC (topK p s n (k + 1)) = flatC (topK p s n k) ++ [.int .i64 1, .string emp, .int .i64 ((p + 1 + k : Nat) : Int)] := by
  have : topK p s n (k + 1) = topK p s n k ++ [⟨1, emp, ((p + 1 + k : Nat) : Int)⟩] := by simp [topK, List.range_succ]
  rw [this, flatC_app]
  rfl
theorem topL_wf {p : Nat} {s : ByteArray} {n : Nat} (hs : s.size ≤ maxLen) (hn : n ≤ 6) (hp : p ≤ 5000) : ∀ c ∈ topL p s n, c.wf := by
  intro c hc
  simp only [topL, List.mem_cons, List.mem_map, List.mem_range] at hc
  rcases hc with rfl | ⟨i, hi, rfl⟩
  · exact ⟨by unfold i64; simp, by unfold i64; simp only; omega, hs⟩
  · exact ⟨by unfold i64; simp, by unfold i64; simp only; omega, Nat.zero_le _⟩
set_option maxRecDepth 100000 in
set_option maxHeartbeats 4000000 in
theorem kStruct_any (base bm : Nat) (m : Mc) (i : In) (n : Nat) (w : World) (h : Mm w base bm m) (hi : i.n = (n : Int)) (hs : i.name.size ≤ maxLen) (hn : n ≤ 6) (hb0 : base ≤ w.heap.size) (hl : m.l.length ≤ 5000) (hr : m.r ≤ 4096) (hr0 : 0 ≤ m.r) :
    Calls Tryd.prog 167 #[.pointer (some ⟨bm, 0, none⟩), i.val] w (RetT w base bm m i.name n) := by
  obtain ⟨A, c, B, d, R, e, G, f, hM⟩ := h
  obtain ⟨p, hp⟩ : ∃ p, p = m.l.length := ⟨_, rfl⟩
  have Hp := Lib.hid hp
  have hp5 : p ≤ 5000 := by omega
  have HM := Lib.hid hM
  unfold In.val
  rw [hi]
  have hlo := hM.lo
  have hlt := hM.lt
  clear hp hM hi
  generalize hx : RetT w base bm m i.name n = Ret
  have Hx := Lib.hid hx
  clear hx
  go_enter Tryd.func167, Tryd.ntmps167
  go_upto_region 2 with fail
  refine wp_world' (Φ := fun X => Below w.heap.size w X ∧ w.heap.size < X.heap.size ∧ X.cell? ⟨w.heap.size, 4, none⟩ = some (.int .i64 n) ∧ X.ownsRow w.heap.size 90 3 (.slice (some ⟨w.heap.size + 1, 0, none⟩) 1 1) 1 (flatC (topK p i.name n 0)))
    ⟨(basM _ _).alloc (by simp) _, by simp; omega, (World.cell?_alloc_lt _ _ ⟨w.heap.size, 4, none⟩ (by simp)).trans (World.cell?_alloc_mark w #[.int .i64 i.op, .int .i64 i.x, .int .i64 i.a, .string i.name, .int .i64 n, .bool i.neg] 88 (0, 0) 4), by
      have := World.ownsRow_lit (w.alloc (.cells #[.int .i64 i.op, .int .i64 i.x, .int .i64 i.a, .string i.name, .int .i64 n, .bool i.neg] 88)) #[.int .i64 4, .string i.name, .int .i64 n] 1 (base := w.heap.size) (e := 90) (size := 3) (by simp) (by simp [maxLen]) rfl
      rw [show (w.alloc (.cells #[.int .i64 i.op, .int .i64 i.x, .int .i64 i.a, .string i.name, .int .i64 n, .bool i.neg] 88)).heap.size = w.heap.size + 1 by simp] at this
      exact this⟩ ?_
  rintro X ⟨hbX, hsX, c4, hO⟩
  have HO := Lib.hid hO
  have HbX := Lib.hid hbX
  clear hbX hO
  go_wp2
  go_loopw [6, 18] (fun lv iv wr => ∃ (k cap : Nat) (L : Option Addr), k ≤ n ∧ iv = .int .i64 k ∧ lv = .slice L (k + 1) cap ∧ Hid (wr.ownsRow w.heap.size 90 3 (.slice L (k + 1) cap) (k + 1) (flatC (topK p i.name n k))) ∧ Below w.heap.size w wr) (fun _ iv _ => n - (intOf iv).toNat)
  case atStart => exact ⟨0, 1, _, Nat.zero_le _, rfl, rfl, HO, HbX.out⟩
  case round =>
    obtain ⟨k, cap, L, hk, rfl, rfl, hO', hb⟩ := hrel
    clear HO HbX c4 hsX
    have HMr := Lib.hid (HM.out.below hb)
    obtain ⟨y0, y1, y2, y3, y4, y5, yl⟩ := open6 HMr.out.blk
    rw [← Hp.out] at y0
    have Hb := Lib.hid hb
    have hsz := hb.size
    clear hb
    by_cases hlt' : k < n
    · go_wp2_with (first
        | (at_builtin; go_must (refine wpList_append_sl rfl (.tmp 21) (.tmp 32) 41 rfl w.heap.size 90 Tryd.underlying41 infoS rfl (by omega) (v := .slice L (k + 1) cap) (n := k + 1) rfl (hO'.out.alloc _) rfl (Sl.lit wr _ [.int .i64 1, .string ⟨#[]⟩, .int .i64 ((p : Int) + 1 + (k : Int))] 90 3 1 rfl rfl (by simp [maxLen])) (one3 _ _ _) (by omega) (by omega) (by simp; omega) ?_); intro L2 cap2 w2 hown2 hb2 hgr2 hblk2; have Hown2 := Lib.hid hown2; have Hb2 := Lib.hid ((Hb.out.alloc hsz _).trans hb2); clear hown2 hb2 hgr2 hblk2))
      go_roundw
      case rel =>
        refine ⟨k + 1, cap2, L2, by omega, by go_num, rfl, Lib.hid ?_, Hb2.out⟩
        rw [topK_succ]
        have := Hown2.out
        rw [show ((p + 1 + k : Nat) : Int) = (p : Int) + 1 + (k : Int) by omega]
        exact this
      case measure => simp [intOf]; omega
    · obtain rfl : k = n := by omega
      have hC : IsC wr L (k + 1) cap (topL p i.name k) := by
        rw [← topK_all]
        exact ⟨Sl.own hO'.out (by omega), by rw [topK_all]; exact topL_wf hs hn hp5⟩
      have hput := kPut_any base bm m L (k + 1) cap (topL p i.name k) wr ⟨A, c, B, d, R, e, G, f, HMr.out⟩ hC (by omega) (by omega) hl hr hr0
      unfold RetP at hput
      rw [topL_len] at hput
      unfold RetT at Hx
      by_cases hf : m.fits (k + 1)
      · simp only [if_pos hf] at hput Hx
        have Hput := Lib.hid hput
        clear hput hC hO' y0 y1 y2 y3 y4 y5 yl hf
        go_wp2_with (first
          | (go_at_call 170; go_must (refine Hput.out.mono ?_); rintro e w3 ⟨rfl, ⟨A3, c3, B3, d3, R3, e3, G3, f3, hM3⟩, hb3, hk3⟩; obtain ⟨t0, t1, t2, t3, t4, t5, tl⟩ := open6 hM3.blk; have tf := frozen_of hM3.blk 4; have HM3 := Lib.hid hM3; have Hb3 := Lib.hid hb3; have Hk3 := Lib.hid hk3; clear hM3 hb3 hk3))
        change Ret (.returned (.tuple #[.int .i64 (m.l.length : Int), .nilIface])) _
        rw [← Hx.out]
        refine ⟨rfl, ⟨A3, c3, B3, d3, R3, e3, G3, f3, ?_⟩, ?_, ?_⟩
        · have := HM3.out.next ((m.l.length : Int) + 1)
          rw [Hp.out] at this
          exact this
        · exact ((Hb.out.mono hb0).trans Hb3.out).setCell hlo _
        · exact ((MKept.below Hb.out).trans Hk3.out).trans (MKept.set _ _ _ _)
      · simp only [if_neg hf] at hput Hx
        have Hput := Lib.hid hput
        have tf := frozen_of HMr.out.blk 4
        clear hput hC hO' hf
        go_wp2_with (first
          | (go_at_call 170; go_must (refine Hput.out.mono ?_); rintro e w3 ⟨rfl, rfl⟩))
        change Ret (.returned (.tuple #[.int .i64 0, errV 80])) _
        rw [← Hx.out]
        exact ⟨rfl, (Hb.out.mono hb0).setCell hlo _, (MKept.below Hb.out).trans (MKept.set _ _ _ _)⟩
end Go.Proofs.YtgipiplklaeplaaDoor
namespace Go.Proofs.YtgipiplklaeplaaDoor
open Go.RowKit
set_option maxRecDepth 100000 in
set_option maxHeartbeats 2000000 in
theorem kFollow_any (base bm : Nat) (m : Mc) (p : Nat) (w : World) (h : Mm w base bm m) (hg : Good m.l) (hp : p < m.l.length) (hl : m.l.length ≤ 100000) :
    Calls Tryd.prog 166 #[.pointer (some ⟨bm, 0, none⟩), .int .i64 p] w fun e w' => e = .returned (.int .i64 (fol m.l p : Nat)) ∧ Below w.heap.size w w' := by
  obtain ⟨A, c, B, d, R, e, G, f, hM⟩ := h
  have g2 := hM.blk
  have hC := hM.isC
  have HC := Lib.hid hC
  have hrk := hg.ac.bounded
  obtain ⟨rk, hr1, hr2⟩ := hrk
  have Hr2 := Lib.hid hr2
  have Hg := Lib.hid hg
  have G2 := Lib.hid g2
  obtain ⟨n, hn⟩ : ∃ n, n = m.l.length := ⟨_, rfl⟩
  have Hn := Lib.hid hn
  rw [← hn] at hp hl G2 HC
  clear hr1 hr2 hg g2 hC hM
  clear hn
  go_enter Tryd.func166, Tryd.ntmps166
  go_wp2
  go_loopw [1] (fun i wr => ∃ q : Nat, q < n ∧ i = .int .i64 q ∧ Hid (fol m.l q = fol m.l p) ∧ Below w.heap.size w wr) (fun i _ => rk (intOf i).toNat)
  case atStart => exact ⟨p, hp, rfl, rfl, Below.refl _ _⟩
  case round =>
    obtain ⟨q, hq, rfl, hres, hb⟩ := hrel
    obtain ⟨y0, y1, y2, y3, y4, y5, yl⟩ := open6 ((hb.block bm (block_lt G2.out)).trans G2.out)
    have hCr := HC.out.below hb
    obtain ⟨x, hx⟩ := hCr.get hq
    obtain ⟨b, off, hAe, hbb, hwf, h0, h1, h2⟩ := hCr.at_ hx
    subst hAe
    have hs := sAt_get hx
    have Hs := Lib.hid hs
    have Hb := Lib.hid hb
    have hcap := hCr.sl.hcap
    have hmax := hCr.sl.hmax
    unfold maxLen at hmax
    have hbal : Below w.heap.size w (wr.alloc (.cells #[.int .i64 x.kind, .string x.name, .int .i64 x.n] 90)) := hb.alloc hb.size _
    have Hbal := Lib.hid hbal
    clear hs hx hCr hb hbal
    cases ho : onB m.l q
    · have hk : (x.kind == 3) = false := by have := Hs.out; unfold onB at ho; rw [this] at ho; simp at ho; simpa using ho.2
      have hk2 : (x.kind != 3) = true := by simp [bne, hk]
      have Ho := Lib.hid ho
      by_cases k1 : x.kind = 1
      · have hk1 : (x.kind != 1) = false := by simp [k1]
        have hk11 : (x.kind == 1) = true := by simp [k1]
        have hnq : (x.n == (q : Int)) = true := by have := Hs.out; unfold onB at ho; rw [this, k1] at ho; simpa using ho
        clear ho k1
        go_wp2
        go_ret
        exact ⟨ret_int (by rw [← hres.out, fol_here Ho.out]), Hbal.out⟩
      · have hk1 : (x.kind != 1) = true := by simp [k1]
        have hk11 : (x.kind == 1) = false := by simp [k1]
        clear ho k1
        go_wp2
        go_ret
        exact ⟨ret_int (by rw [← hres.out, fol_here Ho.out]), Hbal.out⟩
    · have hnx := nx_lt Hg.out.shp ho
      have hlt := Hr2.out q _ hnx (by rw [leads_on ho]; simp)
      have hst := Hg.out.fol_step ho
      have hnn : 0 ≤ x.n := by
        have h1 := shp_at Hg.out.shp (on_lt ho)
        have := Hs.out
        rcases on_kind ho with ⟨k, _⟩ | k
        · have h2 := ok_ref h1 k; rw [this] at h2; omega
        · have h2 := ok_ptr h1 k; rw [this] at h2; omega
      have hnx2 : nx m.l q = x.n.toNat := by unfold nx; rw [Hs.out]
      obtain ⟨z, hz⟩ : ∃ z : Nat, x.n = z := ⟨x.n.toNat, by omega⟩
      rw [hz] at h2 hnx2 Hbal
      simp at hnx2
      rw [hnx2] at hnx hlt hst
      have hzn : z < n := by have := Hn.out; omega
      have Hst := Lib.hid hst
      have hcase := on_kind ho
      rw [Hs.out, hz] at hcase
      clear hnx2 hst hnx ho
      rcases hcase with ⟨k1, kn⟩ | k3
      · have hk : (x.kind == 3) = false := by simp [k1]
        have hk2 : (x.kind != 3) = true := by simp [k1]
        have hk1 : (x.kind != 1) = false := by simp [k1]
        have hk11 : (x.kind == 1) = true := by simp [k1]
        have hnq : ((z : Int) == (q : Int)) = false := by simpa using kn
        have hnq2 : (z == q) = false := by simp; omega
        clear k1 kn hz
        go_wp2
        go_roundw
        case rel => exact ⟨z, hzn, rfl, by rw [← Hst.out]; exact hres.out, Hbal.out⟩
        case measure => simp [intOf]; omega
      · have hk : (x.kind == 3) = true := by simp [k3]
        have hk2 : (x.kind != 3) = false := by simp [k3]
        clear k3 hz
        go_wp2
        go_roundw
        case rel => exact ⟨z, hzn, rfl, by rw [← Hst.out]; exact hres.out, Hbal.out⟩
        case measure => simp [intOf]; omega
end Go.Proofs.YtgipiplklaeplaaDoor
namespace Go.Proofs.YtgipiplklaeplaaDoor
open Go.RowKit
theorem OkH.tr_len11 {l : List C} {tr : List Int} {r : Int} (h : OkH ⟨l, tr, r⟩) : l.length ≤ 4096 ∧ tr.length ≤ 4096 := by
  have h1 := h.tr.len
  have h2 := h.fit
  have h3 := h.room2
  simp only at h1 h2 h3
  omega
theorem Mx.heap {w0 w2 : World} {base bm : Nat} {m : Mc} {A B R G A' B' : Option Addr} {c d e f n' c' m' d' : Nat} {l' : List C} {tr' : List Int} (h : Mx w0 base bm m A c B d R e G f) (hb0 : base ≤ w0.heap.size) (hb : Below w0.heap.size w0 w2)
    (hA : w2.ownsRow w0.heap.size 90 3 (.slice A' n' c') n' (flatC l')) (hB : w2.ownsRow w0.heap.size 3 1 (.slice B' m' d') m' (tr'.map (Value.int .i64))) (hn : n' = l'.length) (hm : m' = tr'.length) (hw : ∀ c ∈ l', c.wf) (hi : ∀ x ∈ tr', i64 x) :
    Mx (((w2.setCell ⟨bm, 0, none⟩ (.slice A' n' c')).setCell ⟨bm, 1, none⟩ (.slice B' m' d')).setCell ⟨bm, 2, none⟩ (.int .i64 m.r)) base bm { m with l := l', tr := tr' } A' c' B' d' R e G f := by
  subst hn hm
  have h2 := h.below hb
  have lt := h.lt
  have x0 := set_block (k := 0) h2.blk (.slice A' l'.length c')
  have x1 := set_block (k := 1) x0 (.slice B' tr'.length d')
  have x2 := set_block (k := 2) x1 (.int .i64 m.r)
  have nA : ∀ a, A' = some a → a.block ≠ bm := fun a ha => by have := (Own0.lt hA a ha).1; omega
  have nB : ∀ a, B' = some a → a.block ≠ bm := fun a ha => by have := (Own0.lt hB a ha).1; omega
  refine ⟨h.lo, by simpa using x2, own_lower (own_set3 hA nA) hb0, own_lower (own_set3 hB nB) hb0, own_set3 h2.r h2.nr, own_set3 h2.g h2.ng, fun x y hx hy => ?_, hw, hi, h.wfr⟩
  have h3 := (Own0.lt hB x hx).1
  have h4 := (Own0.lt h.r y hy).2
  omega
set_option maxRecDepth 100000 in
set_option maxHeartbeats 2000000 in
theorem kUnify_mx (base bm : Nat) (m : Mc) {A : Option Addr} {c : Nat} {B : Option Addr} {d : Nat} {R : Option Addr} {e : Nat} {G : Option Addr} {f : Nat} (a b : Int) (w : World) (hM : Mx w base bm m A c B d R e G f) (ok : OkH ⟨m.l, m.tr, m.r⟩) (hb0 : base ≤ w.heap.size) :
    Calls Tryd.prog 164 #[.pointer (some ⟨bm, 0, none⟩), .int .i64 a, .int .i64 b] w fun e' w' => RetS w base bm (m.unify a b) e' w' ∧ ∃ m' A' c' B' d', Mx w' base bm m' A' c' B' d' R e G f ∧ m'.regs = m.regs := by
  obtain ⟨y0, y1, y2, y3, y4, y5, yl⟩ := open6 hM.blk
  obtain ⟨hl1, hl2⟩ := ok.tr_len11
  have hun := hUnify_any A B m.l.length c m.tr.length d m.r m.l m.tr a b w hM.isC hM.isB ok.good ok.tr (by omega) (by omega)
  have HM := Lib.hid hM
  unfold Mc.unify
  cases hu : uniZ m.l m.tr a b with
  | none =>
    rw [hu] at hun
    have Hun := Lib.hid hun
    clear hM hun hu
    go_enter Tryd.func164, Tryd.ntmps164
    go_wp2_with (first
      | (go_at_call 169; go_must (refine Hun.out.mono ?_); rintro e w2 ⟨hb2, rfl⟩; have Hb2 := Lib.hid hb2; clear hb2))
    go_ret
    exact ⟨⟨rfl, (Hb2.out.alloc Hb2.out.size _).mono hb0, MKept.below (Hb2.out.alloc Hb2.out.size _)⟩, _, _, _, _, _, HM.out.below (Hb2.out.alloc Hb2.out.size _), rfl⟩
  | some u =>
    rw [hu] at hun
    have Hun := Lib.hid hun
    clear hM hun hu
    go_enter Tryd.func164, Tryd.ntmps164
    go_upto_region 2 with (first
      | (go_at_call 169; go_must (refine Hun.out.mono ?_); rintro e w2 ⟨hb2, A', n', c', B', m', d', rfl, hC, hI, _, hoA, hoB⟩; have Hb2 := Lib.hid hb2; have HC := Lib.hid hC; have HI := Lib.hid hI; have HoA := Lib.hid hoA; have HoB := Lib.hid hoB; clear hb2 hC hI hoA hoB))
    have hb3 := Hb2.out.alloc Hb2.out.size (.cells #[.slice A' n' c', .slice B' m' d', .int .i64 m.r] 44)
    refine wp_world' (Φ := fun X => Below w.heap.size w X ∧ X.heap[w2.heap.size]? = some (.cells #[.slice A' n' c', .slice B' m' d', .int .i64 m.r] 44 (0, 0)) ∧ X.ownsRow w.heap.size 90 3 (.slice A' n' c') n' (flatC u.1) ∧ X.ownsRow w.heap.size 3 1 (.slice B' m' d') m' (u.2.map (Value.int .i64)))
      ⟨hb3, alloc_at rfl, own_below HoA.out (basM _ _), own_below HoB.out (basM _ _)⟩ ?_
    rintro X ⟨hbX, hg, hoA, hoB⟩
    have hx := HM.out.below hbX
    obtain ⟨s0, s1, s2, s3, s4, s5, sl⟩ := open6 hx.blk
    have sf0 := frozen_of hx.blk 0
    have sf1 := frozen_of hx.blk 1
    have sf2 := frozen_of hx.blk 2
    obtain ⟨t0, t1, t2, tl⟩ := open3 hg
    have hF := HM.out.heap hb0 hbX hoA hoB HC.out.len.symm HI.out.len.symm HC.out.wf HI.out.wf
    have hbF : Below base w (((X.setCell ⟨bm, 0, none⟩ (.slice A' n' c')).setCell ⟨bm, 1, none⟩ (.slice B' m' d')).setCell ⟨bm, 2, none⟩ (.int .i64 m.r)) := (((hbX.mono hb0).setCell HM.out.lo _).setCell HM.out.lo _).setCell HM.out.lo _
    have hkF : MKept w (((X.setCell ⟨bm, 0, none⟩ (.slice A' n' c')).setCell ⟨bm, 1, none⟩ (.slice B' m' d')).setCell ⟨bm, 2, none⟩ (.int .i64 m.r)) bm := (((MKept.below hbX).trans (MKept.set _ _ _ _)).trans (MKept.set _ _ _ _)).trans (MKept.set _ _ _ _)
    have HF := Lib.hid hF
    have HbF := Lib.hid hbF
    have HkF := Lib.hid hkF
    clear hb3 hbX hg hoA hoB hx hF hbF hkF HoA HoB HC HI Hb2 y0 y1 y2 y3 y4 y5 yl
    go_wp2
    go_ret
    exact ⟨⟨rfl, ⟨_, _, _, _, _, _, _, _, HF.out⟩, HbF.out, HkF.out⟩, _, _, _, _, _, HF.out, rfl⟩
theorem kUnify_any (base bm : Nat) (m : Mc) (a b : Int) (w : World) (h : Mm w base bm m) (ok : OkH ⟨m.l, m.tr, m.r⟩) (hb0 : base ≤ w.heap.size) :
    Calls Tryd.prog 164 #[.pointer (some ⟨bm, 0, none⟩), .int .i64 a, .int .i64 b] w (RetS w base bm (m.unify a b)) := by
  obtain ⟨A, c, B, d, R, e, G, f, hM⟩ := h
  exact (kUnify_mx base bm m a b w hM ok hb0).mono fun _ _ h => h.1
end Go.Proofs.YtgipiplklaeplaaDoor
namespace Go.Proofs.YtgipiplklaeplaaDoor
open Go.RowKit Go.Stop
theorem nil_nil (w : World) : (binOp .eql 118 .nilIface .nilIface).run Tryd.prog w = .ok (.bool true) w := by kernel_rfl
theorem err_nil (n : Int) (w : World) : (binOp .eql 118 (.iface 29 (.int .i64 n)) .nilIface).run Tryd.prog w = .ok (.bool false) w := run_eql_iface_nil w 118 (by kernel_rfl) _ _
set_option maxRecDepth 100000 in
set_option maxHeartbeats 4000000 in
theorem kNumber_any (base bm : Nat) (m : Mc) (p : Nat) (n : Int) (w : World) (h : Mm w base bm m) (hm : McOk m) (hp : p < m.l.length) (hn : -2147483647 ≤ n ∧ n ≤ 2147483647) (hb0 : base ≤ w.heap.size) :
    Calls Tryd.prog 165 #[.pointer (some ⟨bm, 0, none⟩), .int .i64 p, .int .i64 n] w (RetS w base bm (m.number p n)) := by
  have hg := hm.ok.good
  simp only at hg
  obtain ⟨hl1, hl2⟩ := hm.ok.tr_len11
  have hfo := kFollow_any base bm m p w h hg hp (by omega)
  obtain ⟨he, hq⟩ := hg.fol_end hp
  have hkq := hg.fol_kind hp
  have hnn := nil_nil
  have hen := err_nil
  have hr1 := hm.ok.room1
  have hr2 := hm.ok.room2
  simp only at hr1 hr2
  obtain ⟨A, c, B, d, R, e, G, f, hM⟩ := h
  unfold Mc.number
  rw [Int.toNat_natCast]
  generalize fol m.l p = q at *
  obtain ⟨x, hx⟩ : ∃ x, m.l[q]? = some x := ⟨_, List.getElem?_eq_getElem hq⟩
  obtain ⟨b, off, hAe, hbb, hwf, h0, h1, h2⟩ := hM.isC.at_ hx
  have hs := sAt_get hx
  have hcap := hM.isC.sl.hcap
  have hmax := hM.isC.sl.hmax
  unfold maxLen at hmax
  have HM := Lib.hid hM
  have Hfo := Lib.hid hfo
  have Hhx := Lib.hid hx
  rw [hs]
  have hfl := hM.lo
  have Hb0 := Lib.hid hb0
  clear hM hfo hm hg he hs hx hp
  generalize hR : RetS w base bm (if x.kind = 2 ∧ x.n = n then McR.ok m else if x.kind ≠ 1 then McR.err 3 else if m.fits 1 then McR.ok (m.putTo [⟨2, emp, n⟩] q) else McR.err 80) = Ret
  have HR := Lib.hid hR
  clear hR
  go_enter Tryd.func165, Tryd.ntmps165
  go_upto_region 3 with (first
    | (go_at_call 166; go_must (refine Hfo.out.mono ?_); rintro e1 w1 ⟨rfl, hb1⟩; have hM1 := HM.out.below hb1; obtain ⟨y0, y1, y2, y3, y4, y5, yl⟩ := open6 hM1.blk; rw [hAe] at y0; have k0 := (hb1.cell hbb).trans h0; have k1 := (hb1.cell hbb).trans h1; have k2 := (hb1.cell hbb).trans h2; have Hb1 := Lib.hid hb1; have HM1 := Lib.hid hM1; have hsz1 := hb1.size; clear hM1 hb1))
  refine wp_world' (Φ := fun X => Mx X base bm m A c B d R e G f ∧ Below w.heap.size w X ∧ X.heap[w1.heap.size]? = some (.cells #[.int .i64 x.kind, .string x.name, .int .i64 x.n] 90 (0, 0))) ⟨HM1.out.below (basM _ _), Hb1.out.alloc hsz1 _, alloc_at rfl⟩ ?_
  rintro X ⟨hX, hbX, hg⟩
  have HX := Lib.hid hX
  have HbX := Lib.hid hbX
  obtain ⟨t0, t1, t2, tl⟩ := open3 hg
  have hszX := hbX.size
  clear y0 y1 y2 y3 y4 y5 yl k0 k1 k2 HM1 Hb1 hX hbX hg h0 h1 h2 Hfo
  by_cases k2 : x.kind = 2
  · have kb : (x.kind == 2) = true := by simp [k2]
    have kb1 : (x.kind == 1) = false := by simp [k2]
    have kb2 : (x.kind != 1) = true := by simp [k2]
    by_cases hxn : x.n = n
    · rw [if_pos ⟨k2, hxn⟩] at HR
      have nb : (x.n == n) = true := by simp [hxn]
      clear k2 hxn hkq
      go_wp2
      change Ret (.returned (.nilIface)) _
      rw [← HR.out]
      exact ⟨rfl, ⟨_, _, _, _, _, _, _, _, HX.out⟩, HbX.out.mono Hb0.out, MKept.below HbX.out⟩
    · rw [if_neg (fun h => hxn h.2), if_pos (by omega)] at HR
      have nb : (x.n == n) = false := by simp [hxn]
      clear k2 hxn hkq
      go_wp2
      change Ret (.returned (errV 3)) _
      rw [← HR.out]
      exact ⟨rfl, HbX.out.mono Hb0.out, MKept.below HbX.out⟩
  · have kb : (x.kind == 2) = false := by simp [k2]
    rw [if_neg (fun h => k2 h.1)] at HR
    by_cases k1 : x.kind = 1
    · have kb1 : (x.kind == 1) = true := by simp [k1]
      have kb2 : (x.kind != 1) = false := by simp [k1]
      rw [if_neg (fun h => h k1)] at HR
      clear k1 k2 hkq
      obtain ⟨g9, hg9⟩ : ∃ g9, g9 = X := ⟨_, rfl⟩
      have hput := fun (wz : World) (hbz : Below X.heap.size X wz) (D : Option Addr) (kc : Nat) (hC : IsC wz D 1 kc [⟨2, emp, n⟩]) => kPut_any base bm m D 1 kc [⟨2, emp, n⟩] wz ⟨_, _, _, _, _, _, _, _, HX.out.below hbz⟩ hC (by have := Hb0.out; have := hbz.size; omega) (by omega) (by omega) hr2 (by omega)
      have Hput := Lib.hid hput
      have hwn : (⟨2, emp, n⟩ : C).wf := ⟨by unfold i64; simp, by unfold i64; simp only; omega, Nat.zero_le _⟩
      clear hput
      clear hg9 g9
      by_cases hf : m.fits 1
      · rw [if_pos hf] at HR
        unfold RetP at Hput
        simp only [List.length_cons, List.length_nil, Nat.zero_add, if_pos hf] at Hput
        have hbd := fun (wz : World) (hbz : Below base X wz) (hM : Mm wz base bm { m with l := m.l ++ [⟨2, emp, n⟩] }) => kBind_any base bm { m with l := m.l ++ [⟨2, emp, n⟩] } q m.l.length wz hM (by have := Hb0.out; have := hbz.size; omega) (by simp; omega) (by omega) (by simp; omega) (by simp only; omega)
        have Hbd := Lib.hid hbd
        clear hbd hf
        go_upto_region 8 with (first
          | (go_at_call 170; go_must (refine (Hput.out _ (basM _ _) _ _ ⟨Sl.lit X _ [.int .i64 2, .string ⟨#[]⟩, .int .i64 n] 90 3 1 rfl rfl (by simp [maxLen]), fun c hc => by simp at hc; subst hc; exact hwn⟩).mono ?_); rintro e3 w3 ⟨rfl, hM3, hb3, hk3⟩; have HM3 := Lib.hid hM3; have Hb3 := Lib.hid (((basM X (.cells #[.int .i64 2, .string ⟨#[]⟩, .int .i64 n] 90)).mono (Nat.le_trans Hb0.out hszX)).trans hb3); have Hk3 := Lib.hid ((MKept.below (bm := bm) (basM X (.cells #[.int .i64 2, .string ⟨#[]⟩, .int .i64 n] 90))).trans hk3); clear hM3 hb3 hk3))
        clear t0 t1 t2 tl Hput
        go_wp2_with (first
          | (go_at_call 168; go_must (refine (Hbd.out _ Hb3.out HM3.out).mono ?_); rintro e4 w4 ⟨rfl, hM4, hb4, hk4⟩; have HM4 := Lib.hid hM4; have Hb4 := Lib.hid hb4; have Hk4 := Lib.hid hk4; clear hM4 hb4 hk4))
        change Ret (.returned (.nilIface)) _
        rw [← HR.out]
        exact ⟨rfl, HM4.out, (HbX.out.mono Hb0.out).trans (Hb3.out.trans Hb4.out), (MKept.below HbX.out).trans (Hk3.out.trans Hk4.out)⟩
      · rw [if_neg hf] at HR
        unfold RetP at Hput
        simp only [List.length_cons, List.length_nil, Nat.zero_add, if_neg hf] at Hput
        clear hf
        go_upto_region 8 with (first
          | (go_at_call 170; go_must (refine (Hput.out _ (basM _ _) _ _ ⟨Sl.lit X _ [.int .i64 2, .string ⟨#[]⟩, .int .i64 n] 90 3 1 rfl rfl (by simp [maxLen]), fun c hc => by simp at hc; subst hc; exact hwn⟩).mono ?_); rintro e3 w3 ⟨rfl, rfl⟩))
        clear t0 t1 t2 tl Hput
        go_wp2
        change Ret (.returned (errV 80)) _
        rw [← HR.out]
        exact ⟨rfl, (HbX.out.alloc hszX _).mono Hb0.out, MKept.below (HbX.out.alloc hszX _)⟩
    · have kb1 : (x.kind == 1) = false := by simp [k1]
      have kb2 : (x.kind != 1) = true := by simp [k1]
      rw [if_pos k1] at HR
      clear k1 k2 hkq
      go_wp2
      change Ret (.returned (errV 3)) _
      rw [← HR.out]
      exact ⟨rfl, HbX.out.mono Hb0.out, MKept.below HbX.out⟩
end Go.Proofs.YtgipiplklaeplaaDoor
