/- Texts of this proof that belong together: words of memory, plain laws, walks. -/
import Derived.WalkMore
import Derived.Test.YtgipiplklaeplaaDoorB09
import Derived.Test.YtgipiplklaeplaaDoorB49
import Derived.Test.YtgipiplklaeplaaDoorB53
import Derived.Test.YtgipiplklaeplaaDoorB54
set_option linter.unusedVariables false
set_option linter.unusedSimpArgs false
namespace Go.Proofs.YtgipiplklaeplaaDoor
open Go.RowKit
set_option maxRecDepth 100000 in
theorem rPred_any {w : World} {A : Option Addr} {n c : Nat} {t : List C} {x : C} (h : IsC w A n c t) (hx : t[0]? = some x) : Calls Tryd.prog 15 #[.slice A n c] w (RetV w (.agg #[.string x.name, .int .i64 x.n])) := by
 obtain ⟨b, off, rfl, hb, hwf, h0, h1, h2⟩ := h.at_ hx
 simp only [Nat.zero_mul, Nat.add_zero] at h0 h1 h2
 have hn0 : 0 < n := by have := h.len; have := (List.getElem?_eq_some_iff.1 hx).1; omega
 have hcap := h.sl.hcap
 have HS := Lib.hid (show ∀ w', Below w.heap.size w w' → w'.cell? ⟨b, off + 1, none⟩ = some (.string x.name) ∧ w'.cell? ⟨b, off + 2, none⟩ = some (.int .i64 x.n) from fun w' hb' => ⟨(hb'.cell (p := ⟨b, off + 1, none⟩) hb).trans h1, (hb'.cell (p := ⟨b, off + 2, none⟩) hb).trans h2⟩)
 clear h hx hwf h0 h1 h2
 go_enter Tryd.func15, Tryd.ntmps15
 go_upto_region 1 with fail
 refine wp_world' (Φ := fun X => Below w.heap.size w X ∧ X.heap[w.heap.size]? = some (.cells #[.string ⟨#[]⟩, .int .i64 0] 38 (0, 0))) ⟨bas _ _, alloc_at rfl⟩ ?_
 rintro X ⟨hbX, hx⟩
 obtain ⟨g, hg⟩ : ∃ g, g = w.heap.size := ⟨_, rfl⟩
 rw [← hg] at hx ⊢
 have hge : w.heap.size ≤ g := by omega
 clear hg
 refine wp_region_held_drew (S := fun w' => w'.cell? ⟨b, off + 1, none⟩ = some (.string x.name) ∧ w'.cell? ⟨b, off + 2, none⟩ = some (.int .i64 x.n)) (by kernel_rfl) ?gs1 ?gr1
 case gs1 => exact HS.out _ hbX.drew
 case gr1 =>
  intro hHeld
  have HU := Lib.hid hbX.drew
  have HxU := Lib.hid (((Below.refl X.heap.size X).drew.block _ (block_lt hx)).trans hx)
  clear hx hbX
  generalize X.drew = U at *
  refine stepH 0 hHeld ?_
  refine stepH 1 hHeld ?_
  refine stepH 2 hHeld ?_
  refine stepH 3 hHeld ?_
  refine stepH 4 hHeld ?_
  refine stepH 5 hHeld ?_
  refine stepH 6 hHeld ?_
  refine stepH 7 hHeld ?_
  refine stepH 8 hHeld ?_
  obtain ⟨x0, x1, xl⟩ := open2 HxU.out
  have f0 := frozen_of HxU.out 0
  have f1 := frozen_of HxU.out 1
  refine oneH 9 (fun K hK => ?_)
  go_simp
  have hF : ((U.setCell ⟨g, 0, none⟩ (.string x.name)).setCell ⟨g, 1, none⟩ (.int .i64 x.n)).heap[g]? = some (.cells #[.string x.name, .int .i64 x.n] 38 (0, 0)) := by
   have h1 := set_block (k := 0) HxU.out (.string x.name)
   have h2 := set_block (k := 1) h1 (.int .i64 x.n)
   simpa using h2
  have HFb := Lib.hid (show Below w.heap.size w ((U.setCell ⟨g, 0, none⟩ (.string x.name)).setCell ⟨g, 1, none⟩ (.int .i64 x.n)) from Below.setCell (p := ⟨g, 1, none⟩) (Below.setCell (p := ⟨g, 0, none⟩) HU.out (by simp only; omega) _) (by simp only; omega) _)
  refine hK _ _ (HS.out _ HFb.out) ?_
  clear hK K hHeld
  have hHeld := HS.out _ HFb.out
  try simp only [Act.put, sA, sZ, sS]
  refine wpAnyH_done (by kernel_rfl) ?_ _
  generalize (U.setCell ⟨g, 0, none⟩ (.string x.name)).setCell ⟨g, 1, none⟩ (.int .i64 x.n) = F at *
  clear x0 x1 xl f0 f1
  obtain ⟨x0, x1, xl⟩ := open2 hF
  go_wp2
  refine bodyPost_ret (v := .agg #[.string x.name, .int .i64 x.n]) (by simp [results, Tryd.results15, go_sem, *]) rfl ?_
  exact ⟨rfl, HFb.out⟩
theorem match_yes {P T : Tm} {w : World} {A B : Option Addr} {na ca nb cb : Nat} (hA : IsC w A na ca P.flat) (hB : IsC w B nb cb T.flat) (hP : P.size ≤ 1000) (hT : T.size ≤ 1000) (h : ∃ σ : Int → Tm, P.sub σ = T) :
  Calls Tryd.prog 14 #[.slice A na ca, .slice B nb cb] w (fun e w' => ∃ v, e = .returned (.tuple #[v, .bool true]) ∧ Below w.heap.size w w') := by
 have h1 := hA.len
 have h2 := hB.len
 rw [flat_size] at h1 h2
 refine (rMatch_any A B na ca nb cb P T w hA hB (by omega) (by omega)).mono fun e w' ⟨v, b, e1, e2, e3⟩ => ?_
 rw [e2.2 h] at e1
 exact ⟨v, e1, e3⟩
theorem zipF_get {ns : List Bool} {ts : List Tm} {k : Nat} {n : Bool} {u : Tm} (h1 : ns[k]? = some n) (h2 : ts[k]? = some u) : (zipF ns ts)[k]? = some (n, u.flat) := by
 unfold zipF
 rw [List.getElem?_zipWith, h1, h2]
theorem eqPred (s : ByteArray) (k : Int) (w : World) : (binOp .eql 38 (.agg #[.string s, .int .i64 k]) (.agg #[.string s, .int .i64 k])).run Tryd.prog w = .ok (.bool true) w := by
 go_simp
set_option maxRecDepth 100000 in
set_option maxHeartbeats 8000000 in
theorem machInstance_walk (A : Option Addr) (n c : Nat) (t : List C) (A1 : Option Addr) (n1 c1 : Nat) (t1 : List C) (B1 : Option Addr) (m1 e1 : Nat) (b : List (Bool × List C)) (w : World)
  (h : IsC w A n c t) (h1 : IsC w A1 n1 c1 t1) (hB1 : IsLs w B1 m1 e1 b) (hdt : DT w) :
  Calls Tryd.prog 3 #[.slice A n c, .agg #[.slice A1 n1 c1, .slice B1 m1 e1]] w (RetV w (.bool true)) := by
 have hatom := fun X (hb : Below w.heap.size w X) => atom11_any A n c t X (h.below hb)
 have Hdt := Lib.hid hdt
 cases ha : (decide (t.length ≤ 40) && atomB t)
 ·rw [ha] at hatom
  have Hatom := Lib.hid hatom
  clear ha hatom h h1 hB1 hdt
  go_enter Tryd.func3, Tryd.ntmps3
  go_upto_region 1 with fail
  refine wp_world' (Φ := fun X => Below w.heap.size w X ∧ CB X w.heap.size A1 n1 c1 B1 m1 e1) ⟨bas _ _, alloc_at rfl⟩ ?_
  rintro X ⟨hbX, hK1⟩
  obtain ⟨g1, hg1⟩ : ∃ g1, g1 = w.heap.size := ⟨_, rfl⟩
  rw [← hg1] at hK1
  try rw [← hg1]
  clear hg1
  obtain ⟨z0, z1, zl⟩ := open2 hK1
  go_wp2_with fail
  refine (head11_any _ (Hdt.out.below hbX)).mono ?_
  rintro e0 X0 ⟨rfl, hbn⟩
  replace hK1 := hK1.below hbn
  replace hbX := hbX.trans (hbn.mono hbX.size)
  clear hbn z0 z1 zl
  obtain ⟨z0, z1, zl⟩ := open2 hK1
  go_wp2_with fail
  refine (Hatom.out _ hbX).mono ?_
  rintro e3 X1 ⟨rfl, hbn⟩
  replace hK1 := hK1.below hbn
  replace hbX := hbX.trans (hbn.mono hbX.size)
  clear hbn z0 z1 zl
  obtain ⟨z0, z1, zl⟩ := open2 hK1
  go_wp2
  go_ret
  exact ⟨rfl, hbX⟩
 rw [ha] at hatom
 have Hatom := Lib.hid hatom
 have hfew := fun X (hb : Below w.heap.size w X) => few11 X (h1.below hb) (IsG.below keepsLit hB1 hb)
 cases hf : fewB (t1, b) 40
 ·rw [hf] at hfew
  have Hfew := Lib.hid hfew
  clear ha hf hatom hfew h h1 hB1 hdt
  go_enter Tryd.func3, Tryd.ntmps3
  go_upto_region 1 with fail
  refine wp_world' (Φ := fun X => Below w.heap.size w X ∧ CB X w.heap.size A1 n1 c1 B1 m1 e1) ⟨bas _ _, alloc_at rfl⟩ ?_
  rintro X ⟨hbX, hK1⟩
  obtain ⟨g1, hg1⟩ : ∃ g1, g1 = w.heap.size := ⟨_, rfl⟩
  rw [← hg1] at hK1
  try rw [← hg1]
  clear hg1
  obtain ⟨z0, z1, zl⟩ := open2 hK1
  go_wp2_with fail
  refine (head11_any _ (Hdt.out.below hbX)).mono ?_
  rintro e0 X0 ⟨rfl, hbn⟩
  replace hK1 := hK1.below hbn
  replace hbX := hbX.trans (hbn.mono hbX.size)
  clear hbn z0 z1 zl
  obtain ⟨z0, z1, zl⟩ := open2 hK1
  go_wp2_with fail
  refine (Hatom.out _ hbX).mono ?_
  rintro e3 X1 ⟨rfl, hbn⟩
  replace hK1 := hK1.below hbn
  replace hbX := hbX.trans (hbn.mono hbX.size)
  clear hbn z0 z1 zl
  obtain ⟨z0, z1, zl⟩ := open2 hK1
  go_wp2_with fail
  refine (Hfew.out _ hbX).mono ?_
  rintro e4 X2 ⟨rfl, hbn⟩
  replace hK1 := hK1.below hbn
  replace hbX := hbX.trans (hbn.mono hbX.size)
  clear hbn z0 z1 zl
  obtain ⟨z0, z1, zl⟩ := open2 hK1
  go_wp2
  go_ret
  exact ⟨rfl, hbX⟩
 rw [hf] at hfew
 have Hfew := Lib.hid hfew
 obtain ⟨cl, hcl, hsm⟩ := fewB_cls hf
 obtain ⟨s, us, hfl, hok, hsz⟩ := atom_tm ha
 have hres := fun X (hb : Below w.heap.size w X) => res11 (room := 4096) X hcl (by rw [hfl]; exact h.below hb) (h1.below hb) (IsG.below keepsLit hB1 hb) hok hsz (i64_near (by omega) (by omega)) (hdt.below hb)
 have hcap1 := hB1.cap_le
 have hcp1 := hcap1.1
 have hm63 : m1 ≤ 9223372036854775807 := by have h2 := hcap1.2; simp only [maxLen] at h2; omega
 clear hcap1
 rcases inst_law hcl hsm hok hsz with ⟨ex, he, hex⟩ | ⟨T, Ts, he, hlen, hc0, hTs, hTss, hm1, hm2, hm3⟩
 ·rw [he] at hres
  have Hres := Lib.hid hres
  clear ha hf hatom hfew h h1 hB1 hdt he hcl hsm hfl hok hsz hres
  rcases hex with rfl | rfl
  all_goals
   go_enter Tryd.func3, Tryd.ntmps3
   go_upto_region 1 with fail
   refine wp_world' (Φ := fun X => Below w.heap.size w X ∧ CB X w.heap.size A1 n1 c1 B1 m1 e1) ⟨bas _ _, alloc_at rfl⟩ ?_
   rintro X ⟨hbX, hK1⟩
   obtain ⟨g1, hg1⟩ : ∃ g1, g1 = w.heap.size := ⟨_, rfl⟩
   rw [← hg1] at hK1
   try rw [← hg1]
   clear hg1
   obtain ⟨z0, z1, zl⟩ := open2 hK1
   go_wp2_with fail
   refine (head11_any _ (Hdt.out.below hbX)).mono ?_
   rintro e0 X0 ⟨rfl, hbn⟩
   replace hK1 := hK1.below hbn
   replace hbX := hbX.trans (hbn.mono hbX.size)
   clear hbn z0 z1 zl
   obtain ⟨z0, z1, zl⟩ := open2 hK1
   go_wp2_with fail
   refine (Hatom.out _ hbX).mono ?_
   rintro e3 X1 ⟨rfl, hbn⟩
   replace hK1 := hK1.below hbn
   replace hbX := hbX.trans (hbn.mono hbX.size)
   clear hbn z0 z1 zl
   obtain ⟨z0, z1, zl⟩ := open2 hK1
   go_wp2_with fail
   refine (Hfew.out _ hbX).mono ?_
   rintro e4 X2 ⟨rfl, hbn⟩
   replace hK1 := hK1.below hbn
   replace hbX := hbX.trans (hbn.mono hbX.size)
   clear hbn z0 z1 zl
   obtain ⟨z0, z1, zl⟩ := open2 hK1
   go_wp2_with fail
   refine (Hres.out _ hbX).mono ?_
   rintro e5 X3 ⟨rfl, hbn⟩
   replace hbX := hbX.trans (hbn.mono hbX.size)
   clear hbn z0 z1 zl
   go_wp2
   go_ret
   exact ⟨rfl, hbX⟩
 ·rw [he] at hres
  have Hres := Lib.hid hres
  have hhead : IsC w A1 n1 c1 cl.head.flat := by rw [hcl.head]; exact h1
  have hat : IsC w A n c (Tm.f s us).flat := by rw [hfl]; exact h
  have hhs : cl.head.size ≤ 40 := hsm.head
  have Hh := Lib.hid hhead
  have Ha := Lib.hid hat
  have HB1 := Lib.hid hB1
  have Hraw := Lib.hid hcl.body
  have Hm1 := Lib.hid hm1
  have Hm2 := Lib.hid hm2
  have Hm3 := Lib.hid hm3
  have Hszs := Lib.hid (And.intro hsz (And.intro hhs (And.intro hTs (And.intro hTss hsm.body))))
  have Hlen := Lib.hid hlen
  have Hc0 := Lib.hid hc0
  have hml : (zipF (cl.body.map (·.neg)) Ts).length = m1 := by
   have h1 := hB1.len
   have h2 := congrArg List.length hcl.body
   rw [List.length_map] at h2
   simp only at h2
   unfold zipF
   rw [List.length_zipWith, List.length_map, hlen]
   omega
  have Hml := Lib.hid hml
  clear ha hf hatom hfew h h1 hB1 hdt he hcl hsm hfl hok hsz hres hhead hat hhs hm1 hm2 hm3 hTs hTss hlen hc0 hml
  go_enter Tryd.func3, Tryd.ntmps3
  go_upto_region 1 with fail
  refine wp_world' (Φ := fun X => Below w.heap.size w X ∧ CB X w.heap.size A1 n1 c1 B1 m1 e1) ⟨bas _ _, alloc_at rfl⟩ ?_
  rintro X ⟨hbX, hK1⟩
  obtain ⟨g1, hg1⟩ : ∃ g1, g1 = w.heap.size := ⟨_, rfl⟩
  rw [← hg1] at hK1
  try rw [← hg1]
  clear hg1
  obtain ⟨z0, z1, zl⟩ := open2 hK1
  go_wp2_with fail
  refine (head11_any _ (Hdt.out.below hbX)).mono ?_
  rintro e0 X0 ⟨rfl, hbn⟩
  replace hK1 := hK1.below hbn
  replace hbX := hbX.trans (hbn.mono hbX.size)
  clear hbn z0 z1 zl
  obtain ⟨z0, z1, zl⟩ := open2 hK1
  go_wp2_with fail
  refine (Hatom.out _ hbX).mono ?_
  rintro e3 X1 ⟨rfl, hbn⟩
  replace hK1 := hK1.below hbn
  replace hbX := hbX.trans (hbn.mono hbX.size)
  clear hbn z0 z1 zl
  obtain ⟨z0, z1, zl⟩ := open2 hK1
  go_wp2_with fail
  refine (Hfew.out _ hbX).mono ?_
  rintro e4 X2 ⟨rfl, hbn⟩
  replace hK1 := hK1.below hbn
  replace hbX := hbX.trans (hbn.mono hbX.size)
  clear hbn z0 z1 zl
  obtain ⟨z0, z1, zl⟩ := open2 hK1
  go_wp2_with fail
  refine (Hres.out _ hbX).mono ?_
  rintro e5 X3 ⟨A7, n7, c7, B7, m7, e7, rfl, hT7, hL7, hbn⟩
  obtain rfl : m7 = m1 := by rw [← hL7.len]; exact Hml.out
  simp only at hT7 hL7
  replace hK1 := hK1.below hbn
  replace hbX := hbX.trans (hbn.mono hbX.size)
  clear hbn z0 z1 zl
  obtain ⟨z0, z1, zl⟩ := open2 hK1
  have HT7 := Lib.hid hT7
  have HL7 := Lib.hid hL7
  clear hT7 hL7
  go_wp2_with fail
  refine (match_yes (Ha.out.below hbX) HT7.out (by have := Hszs.out.1; omega) (by have := Hszs.out.2.2.1; omega) Hm1.out).mono ?_
  rintro e6 X4 ⟨v6, rfl, hbn⟩
  have HT7' := Lib.hid (HT7.out.below hbn)
  have HL7' := Lib.hid (IsG.below keepsLit HL7.out hbn)
  clear HT7 HL7
  replace hK1 := hK1.below hbn
  replace hbX := hbX.trans (hbn.mono hbX.size)
  clear hbn z0 z1 zl
  obtain ⟨z0, z1, zl⟩ := open2 hK1
  go_wp2_with fail
  refine (match_yes (Hh.out.below hbX) HT7'.out (by have := Hszs.out.2.1; omega) (by have := Hszs.out.2.2.1; omega) Hm2.out).mono ?_
  rintro e8 X5 ⟨v7, rfl, hbn⟩
  have HT7 := Lib.hid (HT7'.out.below hbn)
  have HL7 := Lib.hid (IsG.below keepsLit HL7'.out hbn)
  clear HT7' HL7'
  replace hK1 := hK1.below hbn
  replace hbX := hbX.trans (hbn.mono hbX.size)
  clear hbn z0 z1 zl
  obtain ⟨z0, z1, zl⟩ := open2 hK1
  have HX := Lib.hid hbX
  have HK1 := Lib.hid hK1
  have hcap7 := HL7.out.cap_le.1
  clear hbX hK1
  go_wp2
  go_loopw [13] (fun iv wr => ∃ k : Nat, k ≤ m7 ∧ iv = .int .i64 k ∧ Below X5.heap.size X5 wr) (fun iv _ => m7 - (intOf iv).toNat)
  case atStart => exact ⟨0, Nat.zero_le _, rfl, Below.refl _ _⟩
  case round =>
   obtain ⟨k, hk, rfl, hb⟩ := hrel
   clear z0 z1 zl
   have Hb := Lib.hid hb
   have HbX := Lib.hid (HX.out.trans (hb.mono HX.out.size))
   clear hb
   by_cases hlt : k < m7
   ·obtain ⟨xq, hxq⟩ : ∃ x, cl.body[k]? = some x := ⟨_, List.getElem?_eq_getElem (by have h1 := HB1.out.len; have h2 := congrArg List.length Hraw.out; rw [List.length_map] at h2; (try simp only at h2); omega)⟩
    obtain ⟨uq, huq⟩ : ∃ u, Ts[k]? = some u := ⟨_, List.getElem?_eq_getElem (by have h3 := Hlen.out; have := (List.getElem?_eq_some_iff.1 hxq).1; omega)⟩
    have hmm := Hm3.out k xq uq hxq huq
    have hz := zipF_get (ns := cl.body.map (·.neg)) (n := xq.neg) (by rw [List.getElem?_map, hxq]; rfl) huq
    have hbk : b[k]? = some (xq.neg, xq.t.flat) := by
     have := Hraw.out
     try simp only at this
     rw [← this, List.getElem?_map, hxq]; rfl
    have hs1 := Hszs.out.2.2.2.2 xq (List.mem_of_getElem? hxq)
    have hs2 := Hszs.out.2.2.2.1 uq (List.mem_of_getElem? huq)
    obtain ⟨xn, xt⟩ := xq
    try simp only at hmm hz hbk hs1
    obtain ⟨bl, ol, A9, n9, c9, rfl, hbl, i9, w0, w1⟩ := lits_at (IsG.below keepsLit HB1.out HbX.out) hbk
    obtain ⟨b7, o7, A8, n8, c8, rfl, hb7, i8, v0, v1⟩ := lits_at (IsG.below keepsLit HL7.out Hb.out) hz
    try simp only at w0 w1 v0 v1 i8 i9
    obtain ⟨z0, z1, zl⟩ := open2 (HK1.out.below Hb.out)
    have hcm := fun w' (hb' : Below wr.heap.size wr w') => match_yes (w := w') (i9.below hb') (i8.below hb') (by omega) (by omega) hmm
    have Hcm := Lib.hid hcm
    have HS := Lib.hid (show ∀ w', Below wr.heap.size wr w' → w'.cell? ⟨bl, ol + k * 2, none⟩ = some (.bool xn) ∧ w'.cell? ⟨bl, ol + k * 2 + 1, none⟩ = some (.slice A9 n9 c9) ∧ w'.cell? ⟨b7, o7 + k * 2, none⟩ = some (.bool xn) ∧ w'.cell? ⟨b7, o7 + k * 2 + 1, none⟩ = some (.slice A8 n8 c8) ∧ w'.cell? ⟨g1, 0, none⟩ = some (.slice A1 n1 c1) ∧ w'.cell? ⟨g1, 1, none⟩ = some (.slice (some ⟨bl, ol, none⟩) m7 e1) from fun w' hb => ⟨(hb.cell (p := ⟨bl, ol + k * 2, none⟩) hbl).trans w0, (hb.cell (p := ⟨bl, ol + k * 2 + 1, none⟩) hbl).trans w1, (hb.cell (p := ⟨b7, o7 + k * 2, none⟩) hb7).trans v0, (hb.cell (p := ⟨b7, o7 + k * 2 + 1, none⟩) hb7).trans v1, (hb.cell (p := ⟨g1, 0, none⟩) zl).trans z0, (hb.cell (p := ⟨g1, 1, none⟩) zl).trans z1⟩)
    have hlz : (k : Int) < (m7 : Int) := by omega
    clear hxq huq hmm hz hbk hs1 hs2 i8 i9 w0 w1 v0 v1 z0 z1 hcm
    go_upto_region 14 with fail
    refine wp_region_held_drew (S := fun w' => w'.cell? ⟨bl, ol + k * 2, none⟩ = some (.bool xn) ∧ w'.cell? ⟨bl, ol + k * 2 + 1, none⟩ = some (.slice A9 n9 c9) ∧ w'.cell? ⟨b7, o7 + k * 2, none⟩ = some (.bool xn) ∧ w'.cell? ⟨b7, o7 + k * 2 + 1, none⟩ = some (.slice A8 n8 c8) ∧ w'.cell? ⟨g1, 0, none⟩ = some (.slice A1 n1 c1) ∧ w'.cell? ⟨g1, 1, none⟩ = some (.slice (some ⟨bl, ol, none⟩) m7 e1)) (by kernel_rfl) ?gs14 ?gr14
    case gs14 => exact HS.out _ (Below.refl _ _).drew
    case gr14 =>
     intro hHeld
     have HU5 := Lib.hid ((Below.refl wr.heap.size wr).drew)
     generalize wr.drew = U5 at *
     refine stepH 0 hHeld ?_
     refine stepH 1 hHeld ?_
     refine stepH 2 hHeld ?_
     refine stepH 3 hHeld ?_
     refine stepH 4 hHeld ?_
     refine stepH 5 hHeld ?_
     refine stepH 6 hHeld ?_
     refine stepH 7 hHeld ?_
     refine stepH 8 hHeld ?_
     refine stepH 9 hHeld ?_
     refine stepH 10 hHeld ?_
     refine oneH 11 (fun K hK => ?_)
     go_simp
     go_at_call 14
     refine (Hcm.out _ HU5.out).mono ?_
     rintro e9 U6 ⟨v9, rfl, hb6⟩
     have HU6 := Lib.hid (HU5.out.trans (hb6.mono HU5.out.size))
     clear hb6 HU5
     try go_simp
     refine hK _ _ (HS.out _ HU6.out) ?_
     clear hK K hHeld
     have hHeld := HS.out _ HU6.out
     try simp only [Act.put, sA, sZ, sS]
     refine stepH 12 hHeld ?_
     refine stepH 13 hHeld ?_
     refine stepH 14 hHeld ?_
     refine stepH 15 hHeld ?_
     refine stepH 16 hHeld ?_
     refine wpAnyH_done (by kernel_rfl) ?_ _
     clear hHeld
     go_upto_region 15 with fail
     refine wp_region_held_drew (S := fun w' => w'.cell? ⟨bl, ol + k * 2, none⟩ = some (.bool xn) ∧ w'.cell? ⟨bl, ol + k * 2 + 1, none⟩ = some (.slice A9 n9 c9) ∧ w'.cell? ⟨b7, o7 + k * 2, none⟩ = some (.bool xn) ∧ w'.cell? ⟨b7, o7 + k * 2 + 1, none⟩ = some (.slice A8 n8 c8) ∧ w'.cell? ⟨g1, 0, none⟩ = some (.slice A1 n1 c1) ∧ w'.cell? ⟨g1, 1, none⟩ = some (.slice (some ⟨bl, ol, none⟩) m7 e1)) (by kernel_rfl) ?gs15 ?gr15
     case gs15 => exact HS.out _ HU6.out.drew
     case gr15 =>
      intro hHeld
      have HU7 := Lib.hid HU6.out.drew
      generalize U6.drew = U7 at *
      refine stepH 0 hHeld ?_
      refine stepH 1 hHeld ?_
      refine stepH 2 hHeld ?_
      refine stepH 3 hHeld ?_
      refine stepH 4 hHeld ?_
      refine stepH 5 hHeld ?_
      refine stepH 6 hHeld ?_
      refine stepH 7 hHeld ?_
      refine stepH 8 hHeld ?_
      refine stepH 9 hHeld ?_
      refine stepH 10 hHeld ?_
      refine stepH 11 hHeld ?_
      refine stepH 12 hHeld ?_
      refine stepH 13 hHeld ?_
      refine stepH 14 hHeld ?_
      refine stepH 15 hHeld ?_
      refine wpAnyH_done (by kernel_rfl) ?_ _
      clear hHeld
      go_wp2
      go_roundw
      case rel => exact ⟨k + 1, by omega, by go_num, Hb.out.trans (HU7.out.mono Hb.out.size)⟩
      case measure => simp [intOf]; omega
   ·have hTk : T.flat[0]? = some (Tm.f s us).c0 := by rw [← Hc0.out]; exact flat_get0 T
    have hAk : (Tm.f s us).flat[0]? = some (Tm.f s us).c0 := flat_get0 _
    have HP1 := Lib.hid (rPred_any (HT7.out.below Hb.out) hTk)
    have HP2 := Lib.hid (fun X (hb : Below wr.heap.size wr X) => rPred_any (Ha.out.below (HbX.out.trans (hb.mono HbX.out.size))) hAk)
    have heq := eqPred (Tm.f s us).c0.name (Tm.f s us).c0.n
    clear hTk hAk
    generalize (Tm.f s us).c0 = x0 at *
    go_wp2_with fail
    refine HP1.out.mono ?_
    rintro e9 X6 ⟨rfl, hb6⟩
    have HP2' := Lib.hid (HP2.out _ hb6)
    have HbX6 := Lib.hid (HbX.out.trans (hb6.mono HbX.out.size))
    clear hb6 HP1 HP2
    go_wp2_with fail
    refine HP2'.out.mono ?_
    rintro e9 X7 ⟨rfl, hb7⟩
    have HbX7 := Lib.hid (HbX6.out.trans (hb7.mono HbX6.out.size))
    clear hb7 HP2'
    go_wp2
    go_ret
    exact ⟨rfl, HbX7.out⟩
end Go.Proofs.YtgipiplklaeplaaDoor
