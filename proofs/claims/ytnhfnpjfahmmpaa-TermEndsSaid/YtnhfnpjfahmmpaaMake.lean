/- The walks that make a term of a name and its arguments. -/
import Derived.Test.YtnhfnpjfahmmpaaTurn
import Derived.Test.YtnhfnpjfahmmpaaPart
import Derived.Lib.AppendZeros
namespace Go.Proofs.Ytnhfnpjfahmmpaa
open Go.RowKit

section
variable {P : Program} {w : World} {ops : Array Oper} {rest : List Oper} {o : Oper} {a : Act} {Q : Exit → Act → World → Prop}
theorem run_append_op {s x : Operand} {t u : TypeId} {v1 v2 r : Value} {w' : World} (ho : o.op = .call { callee := .builtin .append, args := #[s, x], argTypes := #[t, u] }) (hs : a.eval s = v1) (hx : a.eval x = v2)
    (hr : (Builtin.append_ #[t, u] o.type #[v1, v2]).run P w = .ok r w') : (execOp a.eval o).run P w = .ok (.value r) w' := by
  simp only [execOp, ho, resolve, invoke, builtin, Sem.run_bind, Sem.run_pure, Result.andThen_ok, List.map_toArray, List.map_cons, List.map_nil, hs, hx, hr]
/-- 'append(nil, make([]T, k)...)', k above 0 -/
theorem wpList_append_zeros (hw : Region.wanted o (yielded ops a.tmps) = true) (s x : Operand) (t tn : TypeId) (ho : o.op = .call { callee := .builtin .append, args := #[s, x], argTypes := #[t, tn] })
    (base : Nat) (e : TypeId) {z : Value} {size bytes : Nat} {kn : IntKind} (ht : P.underlying t = some (.slice e)) (htn : P.underlying tn = some (.int kn)) (hinfo : (P.info? e).map (fun i => (i.zero, i.size, i.bytes)) = some (some z, size, bytes))
    (hzs : z.cells.size = size) (hsz : 0 < size) (hs : a.eval s = .slice none 0 0) {k : Nat} (hx : a.eval x = .int .i64 k) (h0 : 0 < k) (hk : k ≤ 1000000000000) (hbyt : bytes ≤ 64) (hbase : base ≤ w.heap.size)
    (kk : ∀ g cap' w', w'.ownsRow base e size (.slice (some ⟨g, 0, none⟩) 0 cap') 0 [] → k ≤ cap' → Below base w w' → wpList P ops Q rest (a.put o.dst (.slice (some ⟨g, 0, none⟩) k cap')) w') :
    wpList P ops Q (o :: rest) a w := by
  obtain ⟨i, hi, hz, hsize, hby⟩ := info_parts hinfo
  have h48 : k * i.bytes ≤ 281474976710656 := by
    rw [hby]
    have : k * bytes ≤ 1000000000000 * 64 := Nat.mul_le_mul hk hbyt
    omega
  have hrun := Lib.run_append_nil_zeros (P := P) w t tn o.type e i z .i64 kn ht htn hi hz k h0 (by omega) (by omega) h48
  refine wpList_run (Φ := fun v' w' => ∃ g cap', v' = .slice (some ⟨g, 0, none⟩) k cap' ∧ w'.ownsRow base e size (.slice (some ⟨g, 0, none⟩) 0 cap') 0 [] ∧ k ≤ cap' ∧ Below base w w') hw ⟨_, _, run_append_op ho hs hx hrun, w.heap.size, _, rfl, ?_, grownCap_ge w k 0 e, ?_⟩ ?_
  · refine ⟨by simp, .inr ⟨w.heap.size, _, _, rfl, hbase, heap_alloc_new w.drew _, Nat.zero_le _, grownCap_le_maxLen w k 0 e (by simp only [maxLen]; omega), ?_, by simp⟩⟩
    have := grownCap_ge w k 0 e
    simp only [Array.size_append, size_zeroCells, hzs, ← Nat.add_mul]
    congr 1
    omega
  · exact ((Below.refl base w).drew).alloc hbase _
  · rintro v' w' ⟨g, cap', rfl, h1, h2, h3⟩
    exact kk g cap' w' h1 h2 h3
end

set_option maxHeartbeats 400000 in
theorem grow_nil (k : Nat) (w : World) (hk : k ≤ 1000000) :
    Calls Try.prog 65 #[.slice none 0 0, .int .i64 k] w fun e w' => ∃ A cap, e = .returned (.slice A 0 cap) ∧ w'.ownsRow w.heap.size 40 3 (.slice A 0 cap) 0 [] ∧ Below w.heap.size w w' := by
  by_cases h0 : 0 < k
  · have h0' : (0 : Int) < (k : Int) := by omega
    have h0'' : ¬ (k : Int) < 0 := by omega
    go_enter Try.func65, Try.ntmps65
    go_wp2_with (first | (at_builtin; go_must (refine wpList_append_zeros rfl (.tmp 20) (.tmp 21) 22 3 rfl w.heap.size 40 (kn := .i64) Try.underlying22 Try.underlying3 infoC rfl (by omega) rfl rfl h0 (by omega) (by omega) (Nat.le_refl _) ?_); intro g cap' w1 hown hcap hb))
    go_ret
    exact ⟨_, _, rfl, hown, hb⟩
  · obtain rfl : k = 0 := by omega
    go_enter Try.func65, Try.ntmps65
    go_wp2
    go_ret
    exact ⟨_, _, rfl, World.ownsRow_nil _ _ _ _, Below.refl _ _⟩

theorem flatten_take {ts : List (List C)} {k : Nat} {p : List C} (h : ts[k]? = some p) : (ts.take (k + 1)).flatten = (ts.take k).flatten ++ p := by
  obtain ⟨hl, he⟩ := List.getElem?_eq_some_iff.1 h
  rw [List.take_succ_eq_append_getElem hl, he]
  simp
theorem flatten_le (ts : List (List C)) (k : Nat) : (ts.take k).flatten.length ≤ ts.flatten.length := by
  have h := congrArg (fun l : List (List C) => l.flatten.length) (List.take_append_drop k ts)
  simp only [List.flatten_append, List.length_append] at h
  omega

set_option maxHeartbeats 400000 in
theorem concat_any (A : Option Addr) (n cap : Nat) (ts : List (List C)) (w : World) (h : IsCC w A n cap ts) (hn : n ≤ 100000) (hf : ts.flatten.length ≤ 100000) :
    Calls Try.prog 56 #[.slice A n cap] w (RetC w ts.flatten) := by
  have hl := h.len
  have Hl := Lib.hid hl
  have Hf := Lib.hid hf
  clear hl hf
  go_enter Try.func56, Try.ntmps56
  go_wp2
  go_loop [3, 11] (fun o i => ∃ (k m : Nat), k ≤ n ∧ i = .int .i64 k ∧ o = .int .i64 m ∧ m ≤ 100000 ∧ Hid (m = (ts.take k).flatten.length)) (fun _ i => n - (intOf i).toNat)
  case atStart => exact ⟨0, 0, Nat.zero_le _, rfl, rfl, Nat.zero_le _, by simp [Hid]⟩
  case round =>
    obtain ⟨k, m, hk, rfl, rfl, hm, hres⟩ := hrel
    by_cases hlt : k < n
    · obtain ⟨p, hpk⟩ := h.get hlt
      obtain ⟨b, off, A', n', c', rfl, hbb, h0, hcp⟩ := h.at_ hpk
      have hpl := hcp.len
      have hn' : m + n' ≤ 100000 := by
        have h1 := flatten_le ts (k + 1)
        rw [flatten_take hpk, List.length_append, ← hres.out, hpl] at h1
        have := Hf.out
        omega
      have Hpk := Lib.hid hpk
      have Hpl := Lib.hid hpl
      clear hpk hpl
      go_wp2
      go_round
      case rel => exact ⟨k + 1, m + n', by omega, by go_num, by go_num, hn', Lib.hid (by rw [flatten_take Hpk.out, List.length_append, ← hres.out, Hpl.out])⟩
      case measure => simp [intOf]; omega
    · go_wp2_with (first | (go_at_call 65; go_must (refine (grow_nil m _ (by omega)).mono ?_); rintro e w1 ⟨A1, c1, rfl, hown1, hb1⟩))
      go_loopw [6, 27] (fun o i wr => ∃ (k mm c2 : Nat) (A2 : Option Addr), k ≤ n ∧ i = .int .i64 k ∧ o = .slice A2 mm c2 ∧ mm ≤ 100000 ∧ wr.ownsRow w.heap.size 40 3 (.slice A2 mm c2) mm (flatC (ts.take k).flatten) ∧ Below w.heap.size w wr) (fun _ i _ => n - (intOf i).toNat)
      case atStart => exact ⟨0, 0, c1, A1, Nat.zero_le _, rfl, rfl, Nat.zero_le _, by simpa [flatC] using hown1, hb1⟩
      case round =>
        obtain ⟨k, mm, c2, A2, hk, rfl, rfl, hm, hown, hb⟩ := hrel
        by_cases hlt : k < n
        · obtain ⟨p, hpk⟩ := h.get hlt
          obtain ⟨b, off, A', n', c', rfl, hbb, h0, hcp⟩ := h.at_ hpk
          have hpl := hcp.len
          have hml : (ts.take k).flatten.length = mm := by
            have := hown.1
            rw [flatC_len] at this
            omega
          have hn' : mm + n' ≤ 100000 := by
            have h1 := flatten_le ts (k + 1)
            rw [flatten_take hpk, List.length_append, hml, hpl] at h1
            have := Hf.out
            omega
          have Hpk := Lib.hid hpk
          clear hpk hpl hml
          obtain ⟨hc, hf⟩ := bcell hb
          go_wp2_with (first
            | (at_builtin; go_must (refine wpList_append_sl rfl (.tmp 31) (.tmp 32) 22 rfl w.heap.size 40 Try.underlying22 infoC rfl (by omega) rfl hown rfl (hcp.sl.below hb) (oneC p) (by omega) (by omega) hb.size ?_); intro A3 c3 w3 hown3 hb3 _ _))
          go_roundw
          case rel => exact ⟨k + 1, mm + n', c3, A3, by omega, by go_num, rfl, hn', by rw [flatten_take Hpk.out, flatC_append]; exact hown3, hb.trans hb3⟩
          case measure => simp [intOf]; omega
        · have hwf : ∀ c ∈ ts.flatten, c.wf := by
            intro c hc
            obtain ⟨p, hp, hcp⟩ := List.mem_flatten.1 hc
            obtain ⟨i, hi, rfl⟩ := List.getElem_of_mem hp
            obtain ⟨_, _, _, _, _, _, _, _, hcc⟩ := h.at_ (List.getElem?_eq_getElem hi)
            exact hcc.wf c hcp
          have Hwf := Lib.hid hwf
          clear hwf
          go_wp2
          go_ret
          rw [List.take_of_length_le (by rw [Hl.out]; omega)] at hown
          exact ⟨_, _, _, rfl, ⟨Sl.own hown (by omega), Hwf.out⟩, hb⟩

theorem make1_any (A : Option Addr) (n cap : Nat) (t : List C) (w : World) (h : IsC w A n cap t) (hn : n ≤ 100000) :
    Calls Try.prog 55 #[.slice A n cap] w (RetV w (.bool (!rightB t))) := by
  go_enter Try.func55, Try.ntmps55
  go_wp2_with (first | (go_at_call 14; go_must (refine (tRight_any A n cap t _ h hn).mono ?_); rintro e w1 ⟨rfl, hb⟩))
  go_ret
  exact ⟨rfl, hb⟩

set_option maxHeartbeats 400000 in
theorem indexCC_make (A : Option Addr) (n cap : Nat) (ts : List (List C)) (w : World) (h : IsCC w A n cap ts) (hn : n ≤ 100000) (hs : ∀ t ∈ ts, t.length ≤ 100000) :
    Calls Try.prog 66 #[.slice A n cap, .func (.func 55) #[] #[]] w (RetV w (.int .i64 (idxF (fun t : List C => !rightB t) 0 ts))) := by
  have Hs := Lib.hid hs
  clear hs
  go_enter Try.func66, Try.ntmps66
  go_wp2
  go_loopw [8] (fun i wr => ∃ k : Nat, k ≤ n ∧ i = .int .i64 k ∧ Hid (idxF (fun t : List C => !rightB t) k (ts.drop k) = idxF (fun t : List C => !rightB t) 0 ts) ∧ Below w.heap.size w wr) (fun i _ => n - (intOf i).toNat)
  case atStart => exact ⟨0, Nat.zero_le _, rfl, rfl, Below.refl _ _⟩
  case round =>
    obtain ⟨k, hk, rfl, hres, hb⟩ := hrel
    by_cases hlt : k < n
    · obtain ⟨p, hpk⟩ := h.get hlt
      obtain ⟨b, off, A', n', c', rfl, hbb, h0, hcp⟩ := h.at_ hpk
      have hp1 : n' ≤ 100000 := by rw [← hcp.len]; exact Hs.out p (List.mem_of_getElem? hpk)
      have hd := drop_get hpk
      have Hd := Lib.hid hd
      clear hpk hd
      obtain ⟨hc, hf⟩ := bcell hb
      have hg := make1_any A' n' c' p
      cases ho : (!rightB p)
      all_goals
        rw [ho] at hg
        have Ho := Lib.hid ho
        have Hg := Lib.hid hg
        clear ho hg
        go_wp2_with (first | (go_at_call 55; go_must (refine (Hg.out _ (hcp.below hb) hp1).mono ?_); rintro e w1 ⟨rfl, hbn⟩; replace hb := hb.trans (hbn.mono hb.size); clear hbn; obtain ⟨hc, hf⟩ := bcell hb))
      · go_roundw
        case rel => exact ⟨k + 1, by omega, by go_num, by have := hres.out; rw [Hd.out, idxF, if_neg (by simp [Ho.out])] at this; exact this, hb⟩
        case measure => simp [intOf]; omega
      · go_ret
        exact ⟨ret_int (by have := hres.out; rw [Hd.out, idxF, if_pos (by simp [Ho.out])] at this; exact this), hb⟩
    · go_wp2
      go_ret
      exact ⟨ret_int (by have := hres.out; rw [drop_end h.len hlt] at this; simpa [idxF] using this), hb⟩
theorem containsCC_make (A : Option Addr) (n cap : Nat) (ts : List (List C)) (w : World) (h : IsCC w A n cap ts) (hn : n ≤ 100000) (hs : ∀ t ∈ ts, t.length ≤ 100000) :
    Calls Try.prog 57 #[.slice A n cap, .func (.func 55) #[] #[]] w (RetV w (.bool (ts.any fun t => !rightB t))) := by
  have hi := idxF_any (fun t : List C => !rightB t) ts 0
  have Hi := Lib.hid hi
  have Hs := Lib.hid hs
  clear hi hs
  go_enter Try.func57, Try.ntmps57
  go_wp2_with (go_at_call 66; go_must (refine (indexCC_make A n cap ts _ h hn Hs.out).mono ?_); rintro e w1 ⟨rfl, hb⟩)
  go_ret
  exact ⟨ret_bool Hi.out, hb⟩

def mkRow (name : ByteArray) (l : List (List C)) : List C := ⟨3, name, l.length⟩ :: l.flatten
theorem makeF_eq (name : ByteArray) (l : List (List C)) : makeF name l = if l.all rightB && rightB (mkRow name l) then mkRow name l else [] := rfl
theorem make_yes {name : ByteArray} {l : List (List C)} (h1 : l.all rightB = true) (h2 : rightB (mkRow name l) = true) : makeF name l = mkRow name l := by rw [makeF_eq, h1, h2]; rfl
theorem make_no1 {name : ByteArray} {l : List (List C)} (h1 : l.all rightB = false) : makeF name l = [] := by rw [makeF_eq, h1]; rfl
theorem make_no2 {name : ByteArray} {l : List (List C)} (h2 : rightB (mkRow name l) = false) : makeF name l = [] := by rw [makeF_eq, h2]; simp
theorem any_not (l : List (List C)) : (l.any fun t => !rightB t) = !(l.all rightB) := by
  induction l with
  | nil => rfl
  | cons p l ih => simp only [List.any_cons, List.all_cons, ih]; cases rightB p <;> simp

set_option maxHeartbeats 800000 in
theorem tMake_any (name : ByteArray) (A : Option Addr) (n cap : Nat) (ts : List (List C)) (w : World) (h : IsCC w A n cap ts) (hn : n ≤ 1000) (hf : ts.flatten.length ≤ 10000) (hname : name.size ≤ maxLen) :
    Calls Try.prog 34 #[.string name, .slice A n cap] w (RetC w (makeF name ts)) := by
  have hs : ∀ t ∈ ts, t.length ≤ 100000 := fun t ht => by have := mem_length ht; omega
  have hl := h.len
  have hmk : (⟨3, name, (n : Int)⟩ : C) :: ts.flatten = mkRow name ts := by rw [← hl]; rfl
  have Hs := Lib.hid hs
  have Hmk := Lib.hid hmk
  have Hf := Lib.hid hf
  have hwf1 : (⟨3, name, (n : Int)⟩ : C).wf := ⟨by simp [i64], by constructor <;> (dsimp only; omega), hname⟩
  have hany := any_not ts
  have Hany := Lib.hid hany
  clear hs hl hmk hf hany
  cases hall : ts.all rightB
  all_goals
    have Hall := Lib.hid hall
    clear hall
    go_enter Try.func34, Try.ntmps34
    go_wp2_with (first
      | (go_at_call 56; go_must (refine (concat_any A n cap ts _ (h.below (by repeat (first | assumption | exact Below.refl _ _ | refine Below.drew ?_ | refine below_drewN ?_ _ | refine Below.alloc ?_ ?_ _ | refine Below.setCell ?_ ?_ _ | (apply Below.size; assumption) | (simp; done) | (simp; omega) | (have hz := hb.size; simp; omega) | (have hz := hb.size; omega) | omega))) (by omega) (by have := Hf.out; omega)).mono ?_); rintro e w1 ⟨A1, n1, c1, rfl, h1, hb1⟩; have hn1 : n1 ≤ 10000 := by rw [← h1.len]; exact Hf.out)
      | (at_builtin; go_must (refine wpList_append_sl rfl (.tmp 11) (.tmp 13) 22 rfl w.heap.size 40 Try.underlying22 infoC rfl (by omega) rfl (own_below (World.ownsRow_lit w #[.int .i64 3, .string name, .int .i64 n] 1 (Nat.le_refl _) (by simp [maxLen]) rfl) hb1) rfl h1.sl (oneC ts.flatten) (by omega) (by omega) (by have := hb1.size; simp at this; omega) ?_); intro A2 c2 w2 hown2 hb2 _ _;
         have hb : Below w.heap.size w w2 := Below.trans (Below.trans (by repeat (first | assumption | exact Below.refl _ _ | refine Below.drew ?_ | refine below_drewN ?_ _ | refine Below.alloc ?_ ?_ _ | refine Below.setCell ?_ ?_ _ | (apply Below.size; assumption) | (simp; done) | (simp; omega) | (have hz := hb.size; simp; omega) | (have hz := hb.size; omega) | omega)) (hb1.mono (by simp))) hb2)
      | (go_at_call 57; go_must (refine (containsCC_make A n cap ts _ (h.below hb) (by omega) Hs.out).mono ?_); rw [Hany.out, Hall.out]; rintro e w3 ⟨rfl, hb3⟩; replace hb := hb.trans (hb3.mono hb.size)))
  · go_ret
    rw [make_no1 Hall.out]
    exact ⟨_, _, _, rfl, IsC.nil0 _, hb⟩
  · have hrow : IsC w3 A2 (1 + n1) c2 (mkRow name ts) := by
      refine ⟨?_, ?_⟩
      · rw [← Hmk.out]; exact (Sl.own (xs := flatC (⟨3, name, n⟩ :: ts.flatten)) hown2 (by omega)).below hb3
      · rw [← Hmk.out]
        intro c hc
        rcases List.mem_cons.1 hc with rfl | hc
        · exact hwf1
        · exact h1.wf c hc
    cases hr : rightB (mkRow name ts)
    all_goals
      have Hr := Lib.hid hr
      clear hr
      go_wp2_with (first
        | (go_at_call 14; go_must (refine (tRight_any A2 (1 + n1) c2 _ _ hrow (by omega)).mono ?_); rw [Hr.out]; rintro e w4 ⟨rfl, hb4⟩; replace hb := hb.trans (hb4.mono hb.size)))
      go_ret
    · rw [make_no2 Hr.out]
      exact ⟨_, _, _, rfl, IsC.nil0 _, hb⟩
    · rw [make_yes Hall.out Hr.out]
      exact ⟨_, _, _, rfl, hrow.below hb4, hb⟩

theorem all_drop {l : List (List C)} {k : Nat} (h1 : (l.take k).all rightB = true) : l.all rightB = (l.drop k).all rightB := by
  conv => lhs; rw [← List.take_append_drop k l]
  rw [List.all_append, h1, Bool.true_and]
set_option maxHeartbeats 800000 in
theorem rMake_any (name : ByteArray) (A : Option Addr) (n cap : Nat) (ts : List (List C)) (w : World) (h : IsCC w A n cap ts) (hn : n ≤ 1000) (hf : ts.flatten.length ≤ 10000) (hname : name.size ≤ maxLen) :
    Calls Try.prog 35 #[.string name, .slice A n cap] w (RetC w (makeF name ts)) := by
  have hs : ∀ t ∈ ts, t.length ≤ 10000 := fun t ht => by have := mem_length ht; omega
  have hl := h.len
  have hmk : (⟨3, name, (n : Int)⟩ : C) :: ts.flatten = mkRow name ts := by rw [← hl]; rfl
  have Hs := Lib.hid hs
  have Hl := Lib.hid hl
  have Hmk := Lib.hid hmk
  have Hf := Lib.hid hf
  have hwf1 : (⟨3, name, (n : Int)⟩ : C).wf := ⟨by simp [i64], by constructor <;> (dsimp only; omega), hname⟩
  clear hs hl hmk hf
  go_enter Try.func35, Try.ntmps35
  go_wp2
  go_loopw [5, 6] (fun o i wr => ∃ (k m c2 : Nat) (A2 : Option Addr), k ≤ n ∧ i = .int .i64 k ∧ o = .slice A2 m c2 ∧ m ≤ 10001 ∧ wr.ownsRow w.heap.size 40 3 (.slice A2 m c2) m (flatC (⟨3, name, n⟩ :: (ts.take k).flatten)) ∧ Hid ((ts.take k).all rightB = true) ∧ Below w.heap.size w wr) (fun _ i _ => n - (intOf i).toNat)
  case atStart => exact ⟨0, 1, 1, _, Nat.zero_le _, rfl, rfl, by omega, World.ownsRow_lit w #[.int .i64 3, .string name, .int .i64 n] 1 (Nat.le_refl _) (by simp [maxLen]) rfl, rfl, (by repeat (first | assumption | exact Below.refl _ _ | refine Below.drew ?_ | refine below_drewN ?_ _ | refine Below.alloc ?_ ?_ _ | refine Below.setCell ?_ ?_ _ | (apply Below.size; assumption) | (simp; done) | (simp; omega) | (have hz := hb.size; simp; omega) | (have hz := hb.size; omega) | omega))⟩
  case round =>
    obtain ⟨k, m, c2, A2, hk, rfl, rfl, hm, hown, hall, hb⟩ := hrel
    by_cases hlt : k < n
    · obtain ⟨p, hpk⟩ := h.get hlt
      obtain ⟨b, off, A', n', c', rfl, hbb, h0, hcp⟩ := h.at_ hpk
      have hpl := hcp.len
      have hp1 : n' ≤ 10000 := by rw [← hcp.len]; exact Hs.out p (List.mem_of_getElem? hpk)
      have hml : (ts.take k).flatten.length + 1 = m := by
        have := hown.1
        rw [flatC_len, List.length_cons] at this
        omega
      have hn' : m + n' ≤ 10001 := by
        have h1 := flatten_le ts (k + 1)
        rw [flatten_take hpk, List.length_append, hpl] at h1
        have := Hf.out
        omega
      have hd := drop_get hpk
      have Hd := Lib.hid hd
      have Hpk := Lib.hid hpk
      clear hpk hpl hml hd
      obtain ⟨hc, hf⟩ := bcell hb
      cases hr : rightB p
      all_goals
        have Hr := Lib.hid hr
        clear hr
        go_wp2_with (first
          | (go_at_call 15; go_must (refine (rRight_any A' n' c' p _ (hcp.below hb) (by omega)).mono ?_); rw [Hr.out]; rintro e w3 ⟨rfl, hb3⟩; replace hb := hb.trans (hb3.mono hb.size); replace hown := own_below hown hb3; clear hc hf; obtain ⟨hc, hf⟩ := bcell hb)
          | (at_builtin; go_must (refine wpList_append_sl rfl (.tmp 24) (.tmp 28) 22 rfl w.heap.size 40 Try.underlying22 infoC rfl (by omega) rfl hown rfl (hcp.sl.below hb) (oneC p) (by omega) (by omega) hb.size ?_); intro A3 c3 w4 hown3 hb4 _ _))
      · go_ret
        have : ts.all rightB = false := by rw [all_drop hall.out, Hd.out, List.all_cons, Hr.out]; rfl
        rw [make_no1 this]
        exact ⟨_, _, _, rfl, IsC.nil0 _, hb⟩
      · go_roundw
        case rel =>
          refine ⟨k + 1, m + n', c3, A3, by omega, by go_num, rfl, hn', ?_, Lib.hid ?_, hb.trans hb4⟩
          · rw [flatten_take Hpk.out, ← List.cons_append, flatC_append]; exact hown3
          · obtain ⟨hl, he⟩ := List.getElem?_eq_some_iff.1 Hpk.out
            rw [List.take_succ_eq_append_getElem hl, he, List.all_append, hall.out]
            simp [Hr.out]
        case measure => simp [intOf]; omega
    · have hwf : ∀ c ∈ ts.flatten, c.wf := by
        intro c hc
        obtain ⟨p, hp, hcp⟩ := List.mem_flatten.1 hc
        obtain ⟨i, hi, rfl⟩ := List.getElem_of_mem hp
        obtain ⟨_, _, _, _, _, _, _, _, hcc⟩ := h.at_ (List.getElem?_eq_getElem hi)
        exact hcc.wf c hcp
      have htk : ts.take k = ts := List.take_of_length_le (by rw [Hl.out]; omega)
      have hall' := hall.out
      rw [htk] at hown hall'
      have Hall := Lib.hid hall'
      have hrow : IsC wr A2 m c2 (mkRow name ts) := by
        refine ⟨?_, ?_⟩
        · rw [← Hmk.out]; exact Sl.own hown (by omega)
        · rw [← Hmk.out]
          intro c hc
          rcases List.mem_cons.1 hc with rfl | hc
          · exact hwf1
          · exact hwf c hc
      clear hwf htk hall' hall
      cases hr : rightB (mkRow name ts)
      all_goals
        have Hr := Lib.hid hr
        clear hr
        go_wp2_with (first
          | (go_at_call 15; go_must (refine (rRight_any A2 m c2 _ _ hrow (by omega)).mono ?_); rw [Hr.out]; rintro e w4 ⟨rfl, hb4⟩; replace hb := hb.trans (hb4.mono hb.size)))
        go_ret
      · rw [make_no2 Hr.out]
        exact ⟨_, _, _, rfl, IsC.nil0 _, hb⟩
      · rw [make_yes Hall.out Hr.out]
        exact ⟨_, _, _, rfl, hrow.below hb4, hb⟩
end Go.Proofs.Ytnhfnpjfahmmpaa
