/- Texts of this proof that belong together: words of memory, plain laws, short walks. -/
import Derived.Test.YtlndjooddkjnoaaC1
import Derived.Test.YtlndjooddkjnoaaB0
set_option linter.unusedVariables false
set_option linter.unusedSimpArgs false
/- The walk of layer 3's classes (the document's). -/
namespace Go.Proofs.Ytlndjooddkjnoaa
open Go.RowKit

theorem Resp.congr {ts : List Tm} {cls cls' : Nat → Nat} {R : Int → Tm} (h : Resp ts cls R) (he : ∀ i, i < sizes ts → cls' i = cls i) : Resp ts cls' R := by
  have lt : ∀ {i u}, subT ts i = some u → i < sizes ts := fun {i u} hu => by have := subT_lt hu; have := u.size_pos; omega
  intro x y u v hu hv hc
  rw [he x (lt hu), he y (lt hv)] at hc
  exact h x y u v hu hv hc
theorem clsF_map {cl : List Nat} (f : Nat → Nat) {i : Nat} (h : i < cl.length) : clsF (cl.map f) i = f (clsF cl i) := by
  unfold clsF
  rw [List.getElem?_map, List.getElem?_eq_getElem h]
  rfl
/-- what holds of the classes in each round -/
structure ClsI (ts : List Tm) (sec : Nat) (cl : List Nat) : Prop where
  len : cl.length = sizes ts
  lt : ∀ x ∈ cl, x < sizes ts
  two : clsF cl sec = clsF cl 0
  resp : ∀ R u v, subT ts 0 = some u → subT ts sec = some v → u.sub R = v.sub R → Resp ts (clsF cl) R
/-- how many classes there are -/
def occ (N : Nat) (cl : List Nat) : Nat := ((List.range N).filter fun v => cl.contains v).length
theorem occ_lt {N f t : Nat} {cl : List Nat} (hf : f ∈ cl) (hfN : f < N) (ht : t ∈ cl) (hne : f ≠ t) : occ N (cl.map (turnK f t)) < occ N cl := by
  unfold occ
  refine filter_lt _ _ (List.range N) (fun v _ hv => ?_) f (List.mem_range.2 hfN) (by simpa using hf) ?_
  · simp only [List.contains_iff_mem] at hv ⊢
    obtain ⟨z, hz, rfl⟩ := List.mem_map.1 hv
    unfold turnK
    split
    · exact ht
    · exact hz
  · rw [Bool.eq_false_iff]
    intro hc
    simp only [ne_eq, List.contains_iff_mem] at hc
    obtain ⟨z, hz, he⟩ := List.mem_map.1 hc
    unfold turnK at he
    split at he
    · exact hne he.symm
    · exact absurd he ‹_›
theorem ClsI.start {ts : List Tm} {sec : Nat} (h : sec < sizes ts) : ClsI ts sec ((List.range (sizes ts)).map (turnK sec 0)) := by
  have hc : ∀ i, i < sizes ts → clsF (List.range (sizes ts)) i = i := fun i hi => by unfold clsF; rw [List.getElem?_range hi]; rfl
  have h0 : 0 < sizes ts := by omega
  refine ⟨by simp, fun x hx => ?_, ?_, fun R u v hu hv he => ?_⟩
  · obtain ⟨z, hz, rfl⟩ := List.mem_map.1 hx
    have := List.mem_range.1 hz
    unfold turnK
    split <;> omega
  · rw [clsF_map _ (by simpa using h), clsF_map _ (by simpa using h0), hc _ h, hc _ h0]
    unfold turnK
    by_cases e : 0 = sec
    · rw [if_pos rfl, if_pos e]
    · rw [if_pos rfl, if_neg e]
  · have hid : Resp ts (fun i => i) R := fun x y p q hp hq hxy => by
      simp only at hxy
      subst hxy
      rw [hp] at hq
      injection hq with hq
      rw [hq]
    have hm := hid.merge hv hu he.symm
    refine hm.congr fun i hi => ?_
    rw [clsF_map _ (by simpa using hi), hc _ hi]
    rfl
theorem ClsI.step {ts : List Tm} {sec : Nat} {cl : List Nat} (h : ClsI ts sec cl) (hs : sec < sizes ts) {x y : Nat} (hp : PairOk ts cl x y) :
    ClsI ts sec (cl.map (turnK (clsF cl x) (clsF cl y))) ∧ occ (sizes ts) (cl.map (turnK (clsF cl x) (clsF cl y))) < occ (sizes ts) cl := by
  obtain ⟨hx, hy, hm, hne⟩ := hp
  have mx : clsF cl x ∈ cl := List.mem_of_getElem? (clsF_get (by rw [h.len]; exact hx))
  have my : clsF cl y ∈ cl := List.mem_of_getElem? (clsF_get (by rw [h.len]; exact hy))
  refine ⟨⟨by rw [List.length_map]; exact h.len, fun z hz => ?_, ?_, fun R u v hu hv he => ?_⟩, occ_lt mx (h.lt _ mx) my hne⟩
  · obtain ⟨z', hz', rfl⟩ := List.mem_map.1 hz
    unfold turnK
    split
    · exact h.lt _ my
    · exact h.lt _ hz'
  · rw [clsF_map _ (by rw [h.len]; exact hs), clsF_map _ (by rw [h.len]; omega), h.two]
  · obtain ⟨p, hp⟩ := subT_some x ts hx
    obtain ⟨q, hq⟩ := subT_some y ts hy
    have hr := h.resp R u v hu hv he
    refine (hr.merge hp hq (hr.must hm hp hq)).congr fun i hi => ?_
    rw [clsF_map _ (by rw [h.len]; exact hi)]
    rfl
def RetCls (ts : List Tm) (sec : Nat) (w : World) (e : Ending) (w' : World) : Prop := ∃ A n c cl, e = .returned (.slice A n c) ∧ IsI w' A n c (ints cl) ∧ Below w.heap.size w w' ∧ ClsI ts sec cl ∧ Closed ts (clsF cl)
set_option maxRecDepth 100000 in
set_option maxHeartbeats 4000000 in
theorem uclasses_any (A : Option Addr) (n c sec : Nat) (ts : List Tm) (w : World) (h : IsC w A n c (flats ts)) (hs : sec < sizes ts) (hn : n ≤ 1000) :
    Calls Try.prog 69 #[.slice A n c, .int .i64 sec] w (RetCls ts sec w) := by
  have hl := h.len
  rw [flats_size9] at hl
  have HC := Lib.hid h
  have Hl := Lib.hid hl
  have Hs := Lib.hid hs
  have hsn : sec < n := by omega
  have hcd := h.sl.hcap
  have hcm := h.sl.hmax
  unfold maxLen at hcm
  clear h hl hs
  go_enter Try.func69, Try.ntmps69
  go_wp2
  go_loopw [5, 6] (fun cv kv wr => ∃ (k m c8 : Nat) (A8 : Option Addr), k ≤ n ∧ m = k ∧ kv = .int .i64 k ∧ cv = .slice A8 m c8 ∧ wr.ownsRow w.heap.size 3 1 (.slice A8 m c8) m ((ints (List.range k)).map (Value.int .i64)) ∧ Below w.heap.size w wr) (fun _ kv _ => n - (intOf kv).toNat)
  case atStart => exact ⟨0, 0, 0, _, Nat.zero_le _, rfl, rfl, rfl, World.ownsRow_lit w #[] 0 (Nat.le_refl _) (by simp [maxLen]) rfl, (Below.refl _ _).alloc (Nat.le_refl _) _⟩
  case round =>
    obtain ⟨k, m, c8, A8, hk, hmk, rfl, rfl, hown, hb⟩ := hrel
    have Hmk := Lib.hid hmk
    have hm : m ≤ n := by omega
    have Hown := Lib.hid hown
    have hszb := hb.size
    clear hown hmk
    by_cases hkn : k < n
    · go_wp2_with (first
        | (at_builtin; go_must (refine wpList_append_sl rfl (.tmp 17) (.tmp 19) 23 rfl w.heap.size 3 Try.underlying23 infoI rfl (by omega) rfl (Hown.out.alloc _) rfl (Sl.lit wr _ [.int .i64 (k : Int)] 3 1 1 (by simp) rfl (by simp [maxLen])) (one1 rfl) (by omega) (by omega) (by simp; omega) ?_); intro A9 c9 w9 hown9 hb9 _ _; have Hown9 := Lib.hid hown9; have Hb9 := Lib.hid (hb.trans (((Below.refl w.heap.size wr).alloc hszb _).trans hb9)); clear hown9 hb9))
      go_roundw
      case rel => exact ⟨k + 1, m + 1, c9, A9, by omega, by have := Hmk.out; omega, by go_num, rfl, by
        have h9 := Hown9.out
        have e : (ints (List.range (k + 1))).map (Value.int .i64) = (ints (List.range k)).map (Value.int .i64) ++ [.int .i64 (k : Int)] := by simp [ints, List.range_succ]
        rw [e]; exact h9, Hb9.out⟩
      case measure => simp [intOf]; omega
    · have hke : k = n := by omega
      have hI0 : IsI wr A8 m c8 (ints (List.range (sizes ts))) := by
        have h9 := Sl.own Hown.out (by omega)
        rw [hke, ← Hl.out] at h9
        exact ⟨h9, fun x hx => by
          obtain ⟨y, hy, rfl⟩ := List.mem_map.1 hx
          have := List.mem_range.1 hy
          have := Hl.out
          unfold i64; omega⟩
      have Hone := Lib.hid (uone_any A8 m c8 (List.range (sizes ts)) sec 0 wr hI0 (by omega) (by omega))
      have hst := ClsI.start Hs.out
      have Hst := Lib.hid hst
      generalize (List.range (sizes ts)).map (turnK sec 0) = cl0 at *
      clear hke hI0 hst Hown Hmk
      go_upto_region 7 with (first
        | (go_at_call 87; go_must (refine Hone.out.mono ?_); rintro e w1 ⟨A1, n1, c1, rfl, hI1, hb1⟩; have HI1 := Lib.hid hI1; have Hb1 := Lib.hid (hb.trans (hb1.mono hszb)); clear hI1 hb1))
      clear Hone hb hszb
      go_loopg [5] (occ n cl0) (fun kk cv wr2 => ∃ (cl : List Nat) (A2 : Option Addr) (n2 c2 : Nat), cv = .slice A2 n2 c2 ∧ IsI wr2 A2 n2 c2 (ints cl) ∧ Hid (ClsI ts sec cl) ∧ Hid (occ n cl = kk) ∧ Below w.heap.size w wr2)
      case atStart => exact ⟨cl0, A1, n1, c1, rfl, HI1.out, Hst, Lib.hid rfl, Hb1.out⟩
      case round =>
        clear HI1 Hst Hb1
        obtain ⟨cl, A2, n2, c2, rfl, hI2, hcl, hocc, hb2⟩ := hrel
        have hcllt : ∀ x ∈ cl, x ≤ 100000 := fun x hx => by have := hcl.out.lt x hx; have := Hl.out; omega
        have hl2 := hI2.len
        rw [ints_len, hcl.out.len, Hl.out] at hl2
        obtain rfl : n = n2 := by omega
        have Hp := Lib.hid (upair_any A A2 n c c2 ts cl wr (HC.out.below hb2) hI2 (by omega) hcllt)
        have HI2 := Lib.hid hI2
        have hcap2 := hI2.sl.hcap
        have hmax2 := hI2.sl.hmax
        unfold maxLen at hmax2
        have hszb := hb2.size
        clear hcllt hI2 hl2
        go_upto_region 8 with (first
          | (go_at_call 88; go_must (refine Hp.out.mono ?_); rintro e w3 ⟨x, y, ok, rfl, hb3, hyes, hno⟩; have Hyes := Lib.hid hyes; have Hno := Lib.hid hno; have HI3 := Lib.hid (HI2.out.below hb3); have Hb3 := Lib.hid (hb2.trans (hb3.mono hszb)); clear hyes hno hb3))
        clear Hp hb2 hszb HI2
        cases ok
        · have hcd2 := Hno.out rfl
          have Hcd2 := Lib.hid hcd2
          clear hcd2
          go_wp2
          go_ret
          exact ⟨A2, n, c2, cl, rfl, HI3.out, Hb3.out, hcl.out, Hcd2.out⟩
        · have hpo : PairOk ts cl x y := Hyes.out rfl
          obtain ⟨hcl2, hocc2⟩ := hcl.out.step Hs.out hpo
          have hxn : x < n := by have := hpo.1; have := Hl.out; omega
          have hyn : y < n := by have := hpo.2.1; have := Hl.out; omega
          have hgx := clsF_get (cl := cl) (i := x) (by rw [hcl.out.len]; exact hpo.1)
          have hgy := clsF_get (cl := cl) (i := y) (by rw [hcl.out.len]; exact hpo.2.1)
          have hcyl := hcl.out.lt _ (List.mem_of_getElem? hgy)
          obtain ⟨bc, oc, rfl, hbc, _, f0⟩ := HI3.out.at_ (ints_get hgx)
          obtain ⟨bc', oc', he, _, _, f1⟩ := HI3.out.at_ (ints_get hgy)
          injection he with he
          injection he with i1 i2 i3
          subst i1; subst i2
          rw [Hl.out] at hocc2 hcyl
          have Hcl2 := Lib.hid hcl2
          have Hocc2 := Lib.hid (show occ n (cl.map (turnK (clsF cl x) (clsF cl y))) < gk by rw [← hocc.out]; exact hocc2)
          have Hone := Lib.hid (fun wx (hb : Below w3.heap.size w3 wx) => uone_any (some ⟨bc, oc, none⟩) n c2 cl (clsF cl x) (clsF cl y) wx (HI3.out.below hb) (by omega) (by omega))
          generalize cl.map (turnK (clsF cl x) (clsF cl y)) = cl3 at *
          generalize clsF cl x = cx at *
          generalize clsF cl y = cy at *
          clear hcl2 hocc2 hpo hgx hgy
          go_upto_region 10 with fail
          refine wp_region_held_drew (S := fun w' => w'.cell? ⟨bc, oc + x, none⟩ = some (.int .i64 (cx : Int)) ∧ w'.cell? ⟨bc, oc + y, none⟩ = some (.int .i64 (cy : Int))) (by kernel_rfl) ?gs ?gr
          case gs => exact ⟨f0, f1⟩
          case gr =>
            intro hHeld
            have HV : Hid (Below w3.heap.size w3 w3.drew) := Lib.hid ((Below.refl _ _).drew)
            have hbcV : bc < w3.drew.heap.size := hbc
            clear f0 f1
            generalize w3.drew = V at *
            refine takeH 0 hHeld ?_
            try simp only [Act.put, List.setIfInBounds_toArray, List.set_cons_zero, List.set_cons_succ]
            refine takeH 1 hHeld ?_
            try simp only [Act.put, List.setIfInBounds_toArray, List.set_cons_zero, List.set_cons_succ]
            refine takeH 2 hHeld ?_
            try simp only [Act.put, List.setIfInBounds_toArray, List.set_cons_zero, List.set_cons_succ]
            refine takeH 3 hHeld ?_
            try simp only [Act.put, List.setIfInBounds_toArray, List.set_cons_zero, List.set_cons_succ]
            refine takeH 4 hHeld ?_
            try simp only [Act.put, List.setIfInBounds_toArray, List.set_cons_zero, List.set_cons_succ]
            refine takeH 5 hHeld ?_
            try simp only [Act.put, List.setIfInBounds_toArray, List.set_cons_zero, List.set_cons_succ]
            refine takeH 6 hHeld ?_
            try simp only [Act.put, List.setIfInBounds_toArray, List.set_cons_zero, List.set_cons_succ]
            refine takeH 7 hHeld ?_
            try simp only [Act.put, List.setIfInBounds_toArray, List.set_cons_zero, List.set_cons_succ]
            refine takeH 8 hHeld ?_
            try simp only [Act.put, List.setIfInBounds_toArray, List.set_cons_zero, List.set_cons_succ]
            refine held_one (i := 9) (o := ?oi9u10) (by kernel_rfl) ?hi9u10 (fun K hK => ?rest9u10)
            case hi9u10 => (simp only [List.getElem?_toArray, List.getElem?_cons_succ, List.getElem?_cons_zero]; exact rfl)
            go_simp
            go_at_call 87
            refine (Hone.out _ HV.out).mono ?_
            rintro e w4 ⟨A4, n4, c4, rfl, hI4, hb4⟩
            have HI4 := Lib.hid hI4
            have H4 := Lib.hid (HV.out.trans (hb4.mono HV.out.size))
            have h40 := (hb4.cell (p := ⟨bc, oc + x, none⟩) hbcV).trans hHeld.1
            have h41 := (hb4.cell (p := ⟨bc, oc + y, none⟩) hbcV).trans hHeld.2
            clear hI4 hb4
            try go_simp
            have hHeld8 : (fun w' : World => w'.cell? ⟨bc, oc + x, none⟩ = some (.int .i64 (cx : Int)) ∧ w'.cell? ⟨bc, oc + y, none⟩ = some (.int .i64 (cy : Int))) w4 := ⟨h40, h41⟩
            refine hK _ _ hHeld8 ?_
            clear hK K hHeld
            have hHeld := hHeld8
            clear hHeld8
            try simp only [Act.put, List.setIfInBounds_toArray, List.set_cons_zero, List.set_cons_succ]
            refine takeH 10 hHeld ?_
            try simp only [Act.put, List.setIfInBounds_toArray, List.set_cons_zero, List.set_cons_succ]
            refine wpAnyH_done (by kernel_rfl) ?_ _
            clear hHeld h40 h41
            go_wp2
            go_roundg (occ n cl3)
            case measure => exact Hocc2.out
            case rel => exact ⟨cl3, A4, n4, c4, rfl, HI4.out, Hcl2, Lib.hid rfl, Hb3.out.trans (H4.out.mono Hb3.out.size)⟩
end Go.Proofs.Ytlndjooddkjnoaa

/- The walks of layer 3's clash, does, least (the document's). -/
namespace Go.Proofs.Ytlndjooddkjnoaa
open Go.RowKit

theorem isV_kind (u : Tm) : u.isV = false ↔ u.c0.kind ≠ 1 := by cases u <;> simp [Tm.isV, Tm.c0]
theorem subT_lt' {ts : List Tm} {i : Nat} {u : Tm} (h : subT ts i = some u) : i < sizes ts := by have := subT_lt h; have := u.size_pos; omega
/-- two places of a class begin otherwise -/
def Bad (ts : List Tm) (cls : Nat → Nat) (a b : Nat) : Prop := ∃ u v, subT ts a = some u ∧ subT ts b = some v ∧ cls a = cls b ∧ u.isV = false ∧ v.isV = false ∧ u.c0 ≠ v.c0
theorem no_clash {ts : List Tm} {cls : Nat → Nat} (h : ∀ a, a < sizes ts → ∀ b, b < a → ¬ Bad ts cls a b) : ¬ Clash ts cls := by
  rintro ⟨x, y, u, v, h1, h2, h3, h4, h5, h6⟩
  rcases Nat.lt_trichotomy x y with e | e | e
  · exact h y (subT_lt' h2) x e ⟨v, u, h2, h1, h3.symm, h5, h4, fun e => h6 e.symm⟩
  · subst e
    rw [h1] at h2
    injection h2 with h2
    exact h6 (by rw [h2])
  · exact h x (subT_lt' h1) y e ⟨u, v, h1, h2, h3, h4, h5, h6⟩
def RetClash (ts : List Tm) (cl : List Nat) (w : World) (e : Ending) (w' : World) : Prop := ∃ b : Bool, e = .returned (.bool b) ∧ Below w.heap.size w w' ∧ (b = true → Clash ts (clsF cl)) ∧ (b = false → ¬ Clash ts (clsF cl))
set_option maxRecDepth 100000 in
set_option maxHeartbeats 8000000 in
theorem uclash_any (A B : Option Addr) (n c d : Nat) (ts : List Tm) (cl : List Nat) (w : World) (h : IsC w A n c (flats ts)) (hB : IsI w B n d (ints cl)) (hn : n ≤ 100000) :
    Calls Try.prog 70 #[.slice A n c, .slice B n d] w (RetClash ts cl w) := by
  have hl := h.len
  rw [flats_size9] at hl
  have hbl := hB.len
  rw [ints_len] at hbl
  have HC := Lib.hid h
  have HB := Lib.hid hB
  have Hl := Lib.hid hl
  have Hbl := Lib.hid hbl
  have hcd := h.sl.hcap
  have hcm := h.sl.hmax
  unfold maxLen at hcm
  have hdd := hB.sl.hcap
  have hdm := hB.sl.hmax
  unfold maxLen at hdm
  clear h hB hl hbl
  go_enter Try.func70, Try.ntmps70
  go_wp2
  go_loopw [5] (fun av wr => ∃ a : Nat, a ≤ n ∧ av = .int .i64 a ∧ Hid (∀ a', a' < a → ∀ b', b' < a' → ¬ Bad ts (clsF cl) a' b') ∧ Below w.heap.size w wr) (fun av _ => n - (intOf av).toNat)
  case atStart => exact ⟨0, Nat.zero_le _, rfl, Lib.hid (fun a' ha' => by omega), Below.refl _ _⟩
  case round =>
    obtain ⟨a, ha, rfl, hall, hbr⟩ := hrel
    by_cases han : a < n
    · go_wp2
      go_loopw [6] (fun bv wr2 => ∃ b : Nat, b ≤ a ∧ bv = .int .i64 b ∧ Hid (∀ b', b' < b → ¬ Bad ts (clsF cl) a b') ∧ Below w.heap.size w wr2) (fun bv _ => a - (intOf bv).toNat)
      case atStart => exact ⟨0, Nat.zero_le _, rfl, Lib.hid (fun b' hb' => by omega), hbr⟩
      case round =>
        clear hbr
        obtain ⟨b, hb, rfl, hno, hbr2⟩ := hrel
        by_cases hba : b < a
        · obtain ⟨u, hu⟩ := subT_some a ts (by have := Hl.out; omega)
          obtain ⟨v, hv⟩ := subT_some b ts (by have := Hl.out; omega)
          obtain ⟨bb, off, rfl, hbb, hwfu, e0, e1, e2⟩ := HC.out.at_ (subT_cell hu)
          obtain ⟨bb', off', he', _, hwfv, e3, e4, e5⟩ := HC.out.at_ (subT_cell hv)
          injection he' with he'
          injection he' with i1 i2 i3
          subst i1; subst i2
          have hbn : b < n := by omega
          have hga := clsF_get (cl := cl) (i := a) (by have := Hbl.out; omega)
          have hgb := clsF_get (cl := cl) (i := b) (by have := Hbl.out; omega)
          obtain ⟨bc, oc, rfl, hbc, hwfa, f0⟩ := HB.out.at_ (ints_get hga)
          obtain ⟨bc', oc', he'', _, hwfb, f1⟩ := HB.out.at_ (ints_get hgb)
          injection he'' with he''
          injection he'' with i1 i2 i3
          subst i1; subst i2
          have k0 := (hbr2.cell (p := ⟨bb, off + a * 3, none⟩) hbb).trans e0
          have k1 := (hbr2.cell (p := ⟨bb, off + a * 3 + 1, none⟩) hbb).trans e1
          have k2 := (hbr2.cell (p := ⟨bb, off + a * 3 + 2, none⟩) hbb).trans e2
          have k3 := (hbr2.cell (p := ⟨bb, off + b * 3, none⟩) hbb).trans e3
          have k4 := (hbr2.cell (p := ⟨bb, off + b * 3 + 1, none⟩) hbb).trans e4
          have k5 := (hbr2.cell (p := ⟨bb, off + b * 3 + 2, none⟩) hbb).trans e5
          have m0 := (hbr2.cell (p := ⟨bc, oc + a, none⟩) hbc).trans f0
          have m1 := (hbr2.cell (p := ⟨bc, oc + b, none⟩) hbc).trans f1
          have hbbr : bb < wr.heap.size := Nat.lt_of_lt_of_le hbb hbr2.size
          have hbcr : bc < wr.heap.size := Nat.lt_of_lt_of_le hbc hbr2.size
          have hneq := fun w => neqC u.c0 v.c0 w
          have Hu := Lib.hid hu
          have Hv := Lib.hid hv
          have hbq : ∀ q, u.c0.beq v.c0 = q → (q = true ↔ u.c0 = v.c0) := fun q hq => by
            rw [← hq]
            exact ⟨fun h => beq_true h, fun h => by rw [h]; exact beq_refl8 _⟩
          have Hbq := Lib.hid hbq
          obtain ⟨ca, hcae⟩ : ∃ ca, ca = clsF cl a := ⟨_, rfl⟩
          obtain ⟨cb, hcbe⟩ : ∃ cb, cb = clsF cl b := ⟨_, rfl⟩
          rw [← hcae] at m0
          rw [← hcbe] at m1
          have Hcae := Lib.hid hcae
          have Hcbe := Lib.hid hcbe
          clear hu hv hwfu hwfv hga hgb hwfa hwfb e0 e1 e2 e3 e4 e5 f0 f1 hbq hcae hcbe
          by_cases hce : ca = cb
          · have hcb1 : ((ca : Int) == (cb : Int)) = true := by simp; omega
            by_cases hk1 : u.c0.kind = 1
            · have kb1 : (u.c0.kind != 1) = false := by simp [hk1]
              have hnb : Hid (¬ Bad ts (clsF cl) a b) := Lib.hid (by
                rintro ⟨u', v', g1, g2, g3, g4, g5, g6⟩
                rw [Hu.out] at g1
                injection g1 with g1
                subst g1
                rw [isV_kind] at g4
                exact g4 hk1)
              clear hce hk1
              have hno2 : Hid (∀ b', b' < b + 1 → ¬ Bad ts (clsF cl) a b') := Lib.hid (fun b' hb' => by
                by_cases e : b' = b
                · subst e; exact hnb.out
                · exact hno.out b' (by omega))
              clear hnb
              go_upto_region 7 with fail
              go_quiet (fail)
              go_wp2
              go_roundw
              case rel => exact ⟨b + 1, by omega, by go_num, hno2, below_drewN hbr2 _⟩
              case measure => simp [intOf]; omega
            · have kb1 : (u.c0.kind != 1) = true := by simp [hk1]
              by_cases hk2 : v.c0.kind = 1
              · have kb2 : (v.c0.kind != 1) = false := by simp [hk2]
                have hnb : Hid (¬ Bad ts (clsF cl) a b) := Lib.hid (by
                  rintro ⟨u', v', g1, g2, g3, g4, g5, g6⟩
                  rw [Hv.out] at g2
                  injection g2 with g2
                  subst g2
                  rw [isV_kind] at g5
                  exact g5 hk2)
                clear hce hk1 hk2
                have hno2 : Hid (∀ b', b' < b + 1 → ¬ Bad ts (clsF cl) a b') := Lib.hid (fun b' hb' => by
                  by_cases e : b' = b
                  · subst e; exact hnb.out
                  · exact hno.out b' (by omega))
                clear hnb
                go_upto_region 7 with fail
                go_quiet (fail)
                go_wp2
                go_roundw
                case rel => exact ⟨b + 1, by omega, by go_num, hno2, below_drewN hbr2 _⟩
                case measure => simp [intOf]; omega
              · have kb2 : (v.c0.kind != 1) = true := by simp [hk2]
                cases hq : u.c0.beq v.c0
                · have hne : u.c0 ≠ v.c0 := fun e => by have := (Hbq.out _ hq).2 e; cases this
                  have hbad : Clash ts (clsF cl) := ⟨a, b, u, v, Hu.out, Hv.out, by rw [← Hcae.out, ← Hcbe.out]; exact hce, (isV_kind u).2 hk1, (isV_kind v).2 hk2, hne⟩
                  have Hbad := Lib.hid hbad
                  rw [hq] at hneq
                  clear hce hk1 hk2 hq hne hbad
                  go_upto_region 7 with fail
                  go_quiet (fail)
                  go_wp2
                  go_ret
                  exact ⟨true, rfl, below_drewN hbr2 _, fun _ => Hbad.out, by simp⟩
                · have heqc := (Hbq.out _ hq).1 rfl
                  have hnb : Hid (¬ Bad ts (clsF cl) a b) := Lib.hid (by
                    rintro ⟨u', v', g1, g2, g3, g4, g5, g6⟩
                    rw [Hu.out] at g1
                    rw [Hv.out] at g2
                    injection g1 with g1
                    injection g2 with g2
                    subst g1; subst g2
                    exact g6 heqc)
                  rw [hq] at hneq
                  clear hce hk1 hk2 hq heqc
                  have hno2 : Hid (∀ b', b' < b + 1 → ¬ Bad ts (clsF cl) a b') := Lib.hid (fun b' hb' => by
                    by_cases e : b' = b
                    · subst e; exact hnb.out
                    · exact hno.out b' (by omega))
                  clear hnb
                  go_upto_region 7 with fail
                  go_quiet (fail)
                  go_wp2
                  go_roundw
                  case rel => exact ⟨b + 1, by omega, by go_num, hno2, below_drewN hbr2 _⟩
                  case measure => simp [intOf]; omega
          · have hcb1 : ((ca : Int) == (cb : Int)) = false := by simp; omega
            have hnb : Hid (¬ Bad ts (clsF cl) a b) := Lib.hid (by
              rintro ⟨u', v', g1, g2, g3, g4, g5, g6⟩
              rw [← Hcae.out, ← Hcbe.out] at g3
              exact hce g3)
            clear hce
            have hno2 : Hid (∀ b', b' < b + 1 → ¬ Bad ts (clsF cl) a b') := Lib.hid (fun b' hb' => by
              by_cases e : b' = b
              · subst e; exact hnb.out
              · exact hno.out b' (by omega))
            clear hnb
            go_upto_region 7 with fail
            go_quiet (fail)
            go_wp2
            go_roundw
            case rel => exact ⟨b + 1, by omega, by go_num, hno2, below_drewN hbr2 _⟩
            case measure => simp [intOf]; omega
        · have hba2 : b = a := by omega
          have hall2 : Hid (∀ a', a' < a + 1 → ∀ b', b' < a' → ¬ Bad ts (clsF cl) a' b') := Lib.hid (fun a' ha' b' hb' => by
            by_cases e : a' = a
            · subst e; exact hno.out b' (by omega)
            · exact hall.out a' (by omega) b' hb')
          clear hba2
          go_wp2
          go_roundw
          case rel => exact ⟨a + 1, by omega, by go_num, hall2, hbr2⟩
          case measure => simp [intOf]; omega
    · have hcl2 := no_clash (ts := ts) (cls := clsF cl) (fun a' ha' => hall.out a' (by have := Hl.out; omega))
      have Hcl2 := Lib.hid hcl2
      clear hcl2
      go_wp2
      go_ret
      exact ⟨false, rfl, hbr, by simp, fun _ => Hcl2.out⟩
/-- a place of a class that is no variable -/
def doeP (ts : List Tm) (cls : Nat → Nat) (i j : Nat) : Bool := cls j == cls i && (match subT ts j with | some u => !u.isV | none => false)
def doesF (ts : List Tm) (cls : Nat → Nat) (i : Nat) : Option Nat := (List.range (sizes ts)).find? (doeP ts cls i)
def doeI : Option Nat → Int
  | none => -1
  | some j => (j : Int)
theorem find_range {p : Nat → Bool} {N k : Nat} (h : ∀ j, j < k → p j = false) (hk : k < N) (hp : p k = true) : (List.range N).find? p = some k := by
  induction N with
  | zero => omega
  | succ N ih =>
    rw [List.range_succ, List.find?_append]
    by_cases e : k < N
    · rw [ih e]; rfl
    · have : k = N := by omega
      subst this
      have hn : (List.range k).find? p = none := by
        rw [List.find?_eq_none]
        intro x hx
        rw [h x (List.mem_range.1 hx)]
        simp
      rw [hn]
      simp [hp]
theorem find_range_none {p : Nat → Bool} {N : Nat} (h : ∀ j, j < N → p j = false) : (List.range N).find? p = none := by
  rw [List.find?_eq_none]
  intro x hx
  rw [h x (List.mem_range.1 hx)]
  simp
theorem does_ok {ts : List Tm} {cls : Nat → Nat} : Does ts cls (doesF ts cls) := by
  refine ⟨fun i j h => ?_, fun i h j u hj hc => ?_, fun i j h => ?_⟩
  · have hp := List.find?_some h
    unfold doeP at hp
    simp only [Bool.and_eq_true, beq_iff_eq] at hp
    refine ⟨hp.1, ?_⟩
    cases hs : subT ts j with
    | none => rw [hs] at hp; simp at hp
    | some u => rw [hs] at hp; exact ⟨u, rfl, by simpa using hp.2⟩
  · have := (List.find?_eq_none.1 h) j (List.mem_range.2 (subT_lt' hj))
    unfold doeP at this
    rw [hj] at this
    simp only [Bool.and_eq_true, beq_iff_eq, not_and] at this
    have := this hc
    simpa using this
  · unfold doesF
    congr 1
    funext k
    unfold doeP
    rw [h]
set_option maxRecDepth 100000 in
set_option maxHeartbeats 8000000 in
theorem udoes_any (A B : Option Addr) (n c d a : Nat) (ts : List Tm) (cl : List Nat) (w : World) (h : IsC w A n c (flats ts)) (hB : IsI w B n d (ints cl)) (hn : n ≤ 100000) (ha : a < n) :
    Calls Try.prog 73 #[.slice A n c, .slice B n d, .int .i64 a] w (RetV w (.int .i64 (doeI (doesF ts (clsF cl) a)))) := by
  generalize hV : doesF ts (clsF cl) a = V
  have HV := Lib.hid hV
  clear hV
  have hl := h.len
  rw [flats_size9] at hl
  have hbl := hB.len
  rw [ints_len] at hbl
  have HC := Lib.hid h
  have HB := Lib.hid hB
  have Hl := Lib.hid hl
  have Hbl := Lib.hid hbl
  have hcd := h.sl.hcap
  have hcm := h.sl.hmax
  unfold maxLen at hcm
  have hdd := hB.sl.hcap
  have hdm := hB.sl.hmax
  unfold maxLen at hdm
  clear h hB hl hbl
  go_enter Try.func73, Try.ntmps73
  go_wp2
  go_loopw [7] (fun bv wr2 => ∃ b : Nat, b ≤ n ∧ bv = .int .i64 b ∧ Hid (∀ b', b' < b → doeP ts (clsF cl) a b' = false) ∧ Below w.heap.size w wr2) (fun bv _ => n - (intOf bv).toNat)
  case atStart => exact ⟨0, Nat.zero_le _, rfl, Lib.hid (fun b' hb' => by omega), Below.refl _ _⟩
  case round =>
    obtain ⟨b, hb, rfl, hno, hbr2⟩ := hrel
    by_cases hba : b < n
    · obtain ⟨v, hv⟩ := subT_some b ts (by have := Hl.out; omega)
      obtain ⟨bb, off, rfl, hbb, hwfv, e3, e4, e5⟩ := HC.out.at_ (subT_cell hv)
      have hga := clsF_get (cl := cl) (i := a) (by have := Hbl.out; omega)
      have hgb := clsF_get (cl := cl) (i := b) (by have := Hbl.out; omega)
      obtain ⟨bc, oc, rfl, hbc, hwfa, f0⟩ := HB.out.at_ (ints_get hga)
      obtain ⟨bc', oc', he'', _, hwfb, f1⟩ := HB.out.at_ (ints_get hgb)
      injection he'' with he''
      injection he'' with i1 i2 i3
      subst i1; subst i2
      have k3 := (hbr2.cell (p := ⟨bb, off + b * 3, none⟩) hbb).trans e3
      have k5 := (hbr2.cell (p := ⟨bb, off + b * 3 + 2, none⟩) hbb).trans e5
      have m0 := (hbr2.cell (p := ⟨bc, oc + a, none⟩) hbc).trans f0
      have m1 := (hbr2.cell (p := ⟨bc, oc + b, none⟩) hbc).trans f1
      have hbbr : bb < wr.heap.size := Nat.lt_of_lt_of_le hbb hbr2.size
      have hbcr : bc < wr.heap.size := Nat.lt_of_lt_of_le hbc hbr2.size
      have Hv := Lib.hid hv
      have Hwfv := Lib.hid hwfv
      obtain ⟨ca, hcae⟩ : ∃ ca, ca = clsF cl a := ⟨_, rfl⟩
      obtain ⟨cb, hcbe⟩ : ∃ cb, cb = clsF cl b := ⟨_, rfl⟩
      rw [← hcae] at m0
      rw [← hcbe] at m1
      have Hcae := Lib.hid hcae
      have Hcbe := Lib.hid hcbe
      clear hv hwfv hga hgb hwfa hwfb e3 e4 e5 f0 f1 hcae hcbe
      by_cases hce : cb = ca
      · have hcb1 : ((cb : Int) == (ca : Int)) = true := by simp; omega
        by_cases hk1 : v.c0.kind = 1
        · have kb1 : (v.c0.kind != 1) = false := by simp [hk1]
          have hnb : Hid (doeP ts (clsF cl) a b = false) := Lib.hid (by
            unfold doeP
            rw [Hv.out]
            have : v.isV = true := by
              cases hiv : v.isV with
              | true => rfl
              | false => exact absurd hk1 ((isV_kind v).1 hiv)
            simp [this])
          clear hce hk1
          have hno2 : Hid (∀ b', b' < b + 1 → doeP ts (clsF cl) a b' = false) := Lib.hid (fun b' hb' => by
            by_cases e : b' = b
            · subst e; exact hnb.out
            · exact hno.out b' (by omega))
          clear hnb
          go_upto_region 4 with fail
          go_quiet (fail)
          go_wp2
          go_roundw
          case rel => exact ⟨b + 1, by omega, by go_num, hno2, below_drewN hbr2 _⟩
          case measure => simp [intOf]; omega
        · have kb1 : (v.c0.kind != 1) = true := by simp [hk1]
          have hp : doeP ts (clsF cl) a b = true := by
            unfold doeP
            rw [Hv.out]
            show (clsF cl b == clsF cl a && !v.isV) = true
            rw [(isV_kind v).2 hk1, ← Hcae.out, ← Hcbe.out]
            simp [hce]
          have hVb : V = some b := by rw [← HV.out]; exact find_range hno.out (by have := Hl.out; omega) hp
          subst hVb
          clear hce hk1 hp
          go_upto_region 4 with fail
          go_quiet (fail)
          go_wp2
          go_ret
          exact ⟨rfl, below_drewN hbr2 _⟩
      · have hcb1 : ((cb : Int) == (ca : Int)) = false := by simp; omega
        have hnb : Hid (doeP ts (clsF cl) a b = false) := Lib.hid (by
          unfold doeP
          rw [← Hcae.out, ← Hcbe.out]
          simp [hce])
        clear hce
        have hno2 : Hid (∀ b', b' < b + 1 → doeP ts (clsF cl) a b' = false) := Lib.hid (fun b' hb' => by
          by_cases e : b' = b
          · subst e; exact hnb.out
          · exact hno.out b' (by omega))
        clear hnb
        go_upto_region 4 with fail
        go_quiet (fail)
        go_wp2
        go_roundw
        case rel => exact ⟨b + 1, by omega, by go_num, hno2, below_drewN hbr2 _⟩
        case measure => simp [intOf]; omega
    · have hVn : V = none := by rw [← HV.out]; exact find_range_none (fun j hj => hno.out j (by have := Hl.out; omega))
      subst hVn
      go_wp2
      go_ret
      exact ⟨rfl, hbr2⟩
end Go.Proofs.Ytlndjooddkjnoaa

/- The walk of layer 3's least (the document's). -/
namespace Go.Proofs.Ytlndjooddkjnoaa
open Go.RowKit

def leaP (ts : List Tm) (cls : Nat → Nat) (i j : Nat) : Bool := cls j == cls i && (match subT ts j with | some u => u.isV | none => false)
def vN : Option Tm → Int
  | some (.v n) => n
  | _ => 0
def leaK (ts : List Tm) (cls : Nat → Nat) (i : Nat) : Nat → Int
  | 0 => 1000
  | k + 1 => if leaP ts cls i k = true then (if vN (subT ts k) < leaK ts cls i k then vN (subT ts k) else leaK ts cls i k) else leaK ts cls i k
def leaF (ts : List Tm) (cls : Nat → Nat) (i : Nat) : Int := leaK ts cls i (sizes ts)
theorem leaK_same {ts : List Tm} {cls : Nat → Nat} {i j : Nat} (h : cls i = cls j) : ∀ k, leaK ts cls i k = leaK ts cls j k
  | 0 => rfl
  | k + 1 => by
    have : leaP ts cls i k = leaP ts cls j k := by unfold leaP; rw [h]
    simp only [leaK, this, leaK_same h k]
theorem leaK_at (ts : List Tm) (cls : Nat → Nat) (i : Nat) : ∀ k, leaK ts cls i k = 1000 ∨ ∃ z, z < k ∧ cls z = cls i ∧ subT ts z = some (.v (leaK ts cls i k))
  | 0 => .inl rfl
  | k + 1 => by
    have ih := leaK_at ts cls i k
    have ih2 : leaK ts cls i k = 1000 ∨ ∃ z, z < k + 1 ∧ cls z = cls i ∧ subT ts z = some (.v (leaK ts cls i k)) := by
      rcases ih with h | ⟨z, h1, h2, h3⟩
      · exact .inl h
      · exact .inr ⟨z, by omega, h2, h3⟩
    simp only [leaK]
    split
    · rename_i hp
      split
      · refine .inr ⟨k, by omega, ?_, ?_⟩
        · unfold leaP at hp
          simp only [Bool.and_eq_true, beq_iff_eq] at hp
          exact hp.1
        · unfold leaP at hp
          simp only [Bool.and_eq_true, beq_iff_eq] at hp
          cases hs : subT ts k with
          | none => rw [hs] at hp; simp at hp
          | some u =>
            rw [hs] at hp
            cases u with
            | v n => rfl
            | i n => simp [Tm.isV] at hp
            | f s us => simp [Tm.isV] at hp
      · exact ih2
    · exact ih2
theorem ite_min (a b : Int) : (if a < b then a else b) ≤ a ∧ (if a < b then a else b) ≤ b := by
  by_cases h : a < b
  · rw [if_pos h]; omega
  · rw [if_neg h]; omega
theorem leaK_le {ts : List Tm} {cls : Nat → Nat} {i z : Nat} {m : Int} (hz : subT ts z = some (.v m)) (hc : cls z = cls i) : ∀ k, z < k → leaK ts cls i k ≤ m
  | 0, h => by omega
  | k + 1, h => by
    simp only [leaK]
    by_cases e : z = k
    · subst e
      have hp : leaP ts cls i z = true := by unfold leaP; rw [hz]; simp [hc, Tm.isV]
      rw [if_pos hp, hz]
      exact (ite_min _ _).1
    · have ih := leaK_le hz hc k (by omega)
      split
      · split <;> omega
      · exact ih
theorem lea_ok {ts : List Tm} {cls : Nat → Nat} (hv : ∀ z m, subT ts z = some (.v m) → m ≤ 999) {i : Nat} (hi : i < sizes ts) (hd : doesF ts cls i = none) : ∃ z, cls z = cls i ∧ subT ts z = some (.v (leaF ts cls i)) := by
  obtain ⟨u, hu⟩ := subT_some i ts hi
  have h1 := (does_ok (ts := ts) (cls := cls)).none_ i hd i u hu rfl
  cases u with
  | i n => cases h1
  | f s us => cases h1
  | v m =>
    rcases leaK_at ts cls i (sizes ts) with h | ⟨z, _, h2, h3⟩
    · have := leaK_le (cls := cls) (i := i) hu rfl (sizes ts) hi
      have := hv i m hu
      omega
    · exact ⟨z, h2, h3⟩
set_option maxRecDepth 100000 in
set_option maxHeartbeats 8000000 in
theorem uleast_any (A B : Option Addr) (n c d a : Nat) (ts : List Tm) (cl : List Nat) (w : World) (h : IsC w A n c (flats ts)) (hB : IsI w B n d (ints cl)) (hn : n ≤ 100000) (ha : a < n) :
    Calls Try.prog 74 #[.slice A n c, .slice B n d, .int .i64 a] w (RetV w (.int .i64 (leaF ts (clsF cl) a))) := by
  generalize hV : leaF ts (clsF cl) a = V
  have HV := Lib.hid hV
  clear hV
  have hl := h.len
  rw [flats_size9] at hl
  have hbl := hB.len
  rw [ints_len] at hbl
  have HC := Lib.hid h
  have HB := Lib.hid hB
  have Hl := Lib.hid hl
  have Hbl := Lib.hid hbl
  have hcd := h.sl.hcap
  have hcm := h.sl.hmax
  unfold maxLen at hcm
  have hdd := hB.sl.hcap
  have hdm := hB.sl.hmax
  unfold maxLen at hdm
  clear h hB hl hbl
  go_enter Try.func74, Try.ntmps74
  go_wp2
  go_loopw [7, 8] (fun nv bv wr2 => ∃ (b : Nat) (m : Int), b ≤ n ∧ bv = .int .i64 b ∧ nv = .int .i64 m ∧ Hid (m = leaK ts (clsF cl) a b) ∧ Below w.heap.size w wr2) (fun _ bv _ => n - (intOf bv).toNat)
  case atStart => exact ⟨0, 1000, Nat.zero_le _, rfl, rfl, Lib.hid rfl, Below.refl _ _⟩
  case round =>
    obtain ⟨b, m, hb, rfl, rfl, hno, hbr2⟩ := hrel
    by_cases hba : b < n
    · obtain ⟨v, hv⟩ := subT_some b ts (by have := Hl.out; omega)
      obtain ⟨bb, off, rfl, hbb, hwfv, e3, e4, e5⟩ := HC.out.at_ (subT_cell hv)
      have hga := clsF_get (cl := cl) (i := a) (by have := Hbl.out; omega)
      have hgb := clsF_get (cl := cl) (i := b) (by have := Hbl.out; omega)
      obtain ⟨bc, oc, rfl, hbc, hwfa, f0⟩ := HB.out.at_ (ints_get hga)
      obtain ⟨bc', oc', he'', _, hwfb, f1⟩ := HB.out.at_ (ints_get hgb)
      injection he'' with he''
      injection he'' with i1 i2 i3
      subst i1; subst i2
      have k3 := (hbr2.cell (p := ⟨bb, off + b * 3, none⟩) hbb).trans e3
      have k5 := (hbr2.cell (p := ⟨bb, off + b * 3 + 2, none⟩) hbb).trans e5
      have m0 := (hbr2.cell (p := ⟨bc, oc + a, none⟩) hbc).trans f0
      have m1 := (hbr2.cell (p := ⟨bc, oc + b, none⟩) hbc).trans f1
      have hbbr : bb < wr.heap.size := Nat.lt_of_lt_of_le hbb hbr2.size
      have hbcr : bc < wr.heap.size := Nat.lt_of_lt_of_le hbc hbr2.size
      have Hv := Lib.hid hv
      have Hwfv := Lib.hid hwfv
      obtain ⟨ca, hcae⟩ : ∃ ca, ca = clsF cl a := ⟨_, rfl⟩
      obtain ⟨cb, hcbe⟩ : ∃ cb, cb = clsF cl b := ⟨_, rfl⟩
      rw [← hcae] at m0
      rw [← hcbe] at m1
      have Hcae := Lib.hid hcae
      have Hcbe := Lib.hid hcbe
      clear hv hwfv hga hgb hwfa hwfb e3 e4 e5 f0 f1 hcae hcbe
      by_cases hce : cb = ca
      · have hcb1 : ((cb : Int) == (ca : Int)) = true := by simp; omega
        by_cases hk1 : v.c0.kind = 1
        · have kb1 : (v.c0.kind == 1) = true := by simp [hk1]
          have hiv : v.isV = true := by
            cases hiv : v.isV with
            | true => rfl
            | false => exact absurd hk1 ((isV_kind v).1 hiv)
          have hp : leaP ts (clsF cl) a b = true := by
            unfold leaP
            rw [Hv.out]
            show (clsF cl b == clsF cl a && v.isV) = true
            rw [hiv, ← Hcae.out, ← Hcbe.out]
            simp [hce]
          have hvn : vN (subT ts b) = v.c0.n := by
            rw [Hv.out]
            cases v with
            | v x => rfl
            | i x => cases hiv
            | f s us => cases hiv
          by_cases hlt : v.c0.n < m
          · have hno2 : Hid (v.c0.n = leaK ts (clsF cl) a (b + 1)) := Lib.hid (by
              simp only [leaK]
              rw [if_pos hp, hvn, ← hno.out, if_pos hlt])
            clear hce hk1 hp hvn hiv
            go_upto_region 5 with fail
            go_quiet (fail)
            go_wp2
            go_roundw
            case rel => exact ⟨b + 1, v.c0.n, by omega, by go_num, rfl, hno2, below_drewN hbr2 _⟩
            case measure => simp [intOf]; omega
          · have hno2 : Hid (m = leaK ts (clsF cl) a (b + 1)) := Lib.hid (by
              simp only [leaK]
              rw [if_pos hp, hvn, ← hno.out, if_neg hlt])
            clear hce hk1 hp hvn hiv
            go_upto_region 5 with fail
            go_quiet (fail)
            go_wp2
            go_roundw
            case rel => exact ⟨b + 1, m, by omega, by go_num, rfl, hno2, below_drewN hbr2 _⟩
            case measure => simp [intOf]; omega
        · have kb1 : (v.c0.kind == 1) = false := by simp [hk1]
          have hnb : Hid (leaP ts (clsF cl) a b = false) := Lib.hid (by
            unfold leaP
            rw [Hv.out]
            show (clsF cl b == clsF cl a && v.isV) = false
            rw [(isV_kind v).2 hk1]
            simp)
          clear hce hk1
          have hno2 : Hid (m = leaK ts (clsF cl) a (b + 1)) := Lib.hid (by
            have := hno.out
            have hnp := hnb.out
            simp only [leaK]
            rw [if_neg (by rw [hnp]; simp)]
            exact this)
          clear hnb
          go_upto_region 5 with fail
          go_quiet (fail)
          go_wp2
          go_roundw
          case rel => exact ⟨b + 1, m, by omega, by go_num, rfl, hno2, below_drewN hbr2 _⟩
          case measure => simp [intOf]; omega
      · have hcb1 : ((cb : Int) == (ca : Int)) = false := by simp; omega
        have hnb : Hid (leaP ts (clsF cl) a b = false) := Lib.hid (by
          unfold leaP
          rw [← Hcae.out, ← Hcbe.out]
          simp [hce])
        clear hce
        have hno2 : Hid (m = leaK ts (clsF cl) a (b + 1)) := Lib.hid (by
          have := hno.out
          have hnp := hnb.out
          simp only [leaK]
          rw [if_neg (by rw [hnp]; simp)]
          exact this)
        clear hnb
        go_upto_region 5 with fail
        go_quiet (fail)
        go_wp2
        go_roundw
        case rel => exact ⟨b + 1, m, by omega, by go_num, rfl, hno2, below_drewN hbr2 _⟩
        case measure => simp [intOf]; omega
    · have hVn : V = m := by rw [← HV.out, hno.out, leaF, Hl.out]; congr 1; omega
      subst hVn
      go_wp2
      go_ret
      exact ⟨rfl, hbr2⟩
end Go.Proofs.Ytlndjooddkjnoaa
