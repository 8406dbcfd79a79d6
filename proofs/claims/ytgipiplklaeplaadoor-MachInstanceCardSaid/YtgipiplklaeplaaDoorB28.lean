/- Texts of this proof that belong together: words of memory, plain laws, walks. -/
import Derived.LaidEql
import Derived.LaidHandle
import Derived.LaidMore
import Derived.Lib.IfaceEq
import Derived.OpenShut
import Derived.ProofKit
import Derived.RowKitTokens
import Derived.Stop.Asserts
import Derived.Stop.Joined
import Derived.Test.YtgipiplklaeplaaDoorChecked
import Derived.Test.YtgipiplklaeplaaDoorRows
import Derived.WalkKit
import Derived.Test.YtgipiplklaeplaaDoorB01
import Derived.Test.YtgipiplklaeplaaDoorB09
import Derived.Test.YtgipiplklaeplaaDoorB13
import Derived.Test.YtgipiplklaeplaaDoorB22
import Derived.Test.YtgipiplklaeplaaDoorB27
set_option linter.unusedVariables false
set_option linter.unusedSimpArgs false
namespace Go.Proofs.YtgipiplklaeplaaDoor
open Go.RowKit
def opF : Nat → FuncId
 | 1 => 151
 | 2 => 152
 | 3 => 153
 | 4 => 154
 | 5 => 155
 | 6 => 156
 | 7 => 157
 | 8 => 158
 | 9 => 155
 | 10 => 159
 | 11 => 160
 | 12 => 161
 | _ => 162
theorem kStep_any (base bm : Nat) (m : Mc) (i : In) (w : World) (h : Mm w base bm m) (hf : Fit m i) (hi : i.wf) (hl : m.regs.length ≤ 100000) (hg : m.goals.length ≤ 100000) (hb0 : base ≤ w.heap.size) :
  Calls Tryd.prog (opF i.op.toNat) #[.pointer (some ⟨bm, 0, none⟩), i.val] w (RetS w base bm (stepF m i)) := by
 have hm := hf.mok
 have natA : 0 ≤ i.a ∧ i.a < (m.regs.length : Int) → ∃ a : Nat, i.a = (a : Int) ∧ a < m.regs.length := fun h => ⟨i.a.toNat, by omega, by omega⟩
 have natX : 0 ≤ i.x ∧ i.x < (m.regs.length : Int) → ∃ a : Nat, i.x = (a : Int) ∧ a < m.regs.length := fun h => ⟨i.x.toNat, by omega, by omega⟩
 have hop : i.op = 1 ∨ i.op = 2 ∨ i.op = 3 ∨ i.op = 4 ∨ i.op = 5 ∨ i.op = 6 ∨ i.op = 7 ∨ i.op = 8 ∨ i.op = 9 ∨ i.op = 10 ∨ i.op = 11 ∨ i.op = 12 ∨ i.op = 13 := by have := hf.op; omega
 unfold stepF
 rcases hop with e | e | e | e | e | e | e | e | e | e | e | e | e <;> rw [e]
 ·obtain ⟨a, h1, h2⟩ := natA (hf.a (by omega))
  exact kGetVar_any base bm m i a w h hm h1 h2 (hf.newX (by omega)) hl hb0
 ·obtain ⟨a, h1, h2⟩ := natA (hf.a (by omega))
  obtain ⟨x, h3, h4⟩ := natX (hf.x (by omega))
  exact kGetVal_any base bm m i a x w h hm h1 h2 h3 h4 hl hb0
 ·obtain ⟨a, h1, h2⟩ := natA (hf.a (by omega))
  exact kGetInt_any base bm m i a w h hm h1 h2 (hf.num (by omega)) hb0
 ·obtain ⟨a, h1, h2⟩ := natA (hf.a (by omega))
  obtain ⟨k1, k2, k3⟩ := hf.name (by omega)
  exact kGetFun_any base bm m i a i.n.toNat w h hm h1 h2 (by omega) (by omega) hi.name hb0
 ·exact kSetVar_any base bm m i w h hm (hf.newX (by omega)) hl hb0
 ·obtain ⟨x, h3, h4⟩ := natX (hf.x (by omega))
  exact kUniVal_any base bm m i x w h hm h3 h4 (hf.next (by omega)) hb0
 ·exact kUniInt_any base bm m i w h hm (hf.next (by omega)) (hf.num (by omega)) hb0
 ·obtain ⟨k1, k2, k3⟩ := hf.name (by omega)
  exact kPutFun_any base bm m i i.n.toNat w h hm (hf.newA (by omega)) (by omega) (by omega) hi.name hl hb0
 ·exact kSetVar_any base bm m i w h hm (hf.newX (by omega)) hl hb0
 ·obtain ⟨x, h3, h4⟩ := natX (hf.x (by omega))
  exact kSetVal_any base bm m i x w h hm h3 h4 (hf.next (by omega)) hb0
 ·exact kSetInt_any base bm m i w h hm (hf.next (by omega)) (hf.num (by omega)) hb0
 ·obtain ⟨a, h1, h2⟩ := natA (hf.a (by omega))
  exact kCall_any base bm m i a w h h1 h2 hg hb0
 ·exact kRest_any base bm m i w h hb0
end Go.Proofs.YtgipiplklaeplaaDoor
namespace Go.Proofs.YtgipiplklaeplaaDoor
open Go.RowKit Go.Extern.Stop Go.Stop Go.Extern
theorem isTypeOf (v : Value) (w : World) : (Extern.ReflectliteType.typeOf #[.iface 29 v]).run Tryd.prog w = .ok (.iface 176 (.agg #[.pointer (some ⟨1, 29, none⟩)])) w := by kernel_rfl
theorem callComparable (w : World) : (callFunc 140 #[.agg #[.pointer (some ⟨1, 29, none⟩)]]).run Tryd.prog w = .ok (.value (.bool true)) w := by kernel_rfl
theorem isMethodComparable (v : Value) (w : World) : (Go.method 337 176 v "Comparable").run Tryd.prog w = .ok (140, v) w := by kernel_rfl
theorem isComp : (Tryd.prog.info? 29).map (·.comparable) = some true := by kernel_rfl
theorem noIsE (v : Value) (xT : TypeId) (w : World) : (Instr.typeAssert (.iface 29 v) xT 178 true).run Tryd.prog w = .ok (.tuple #[.nilIface, .bool false]) w := run_typeAssert_lacksB Tryd.underlying178 (by kernel_rfl) (by kernel_rfl) v xT w
theorem noUnwrapE (v : Value) (xT : TypeId) (w : World) : (Instr.typeAssert (.iface 29 v) xT 181 true).run Tryd.prog w = .ok (.tuple #[.nilIface, .bool false]) w := run_typeAssert_lacksB Tryd.underlying181 (by kernel_rfl) (by kernel_rfl) v xT w
theorem noUnwrapsE (v : Value) (xT : TypeId) (w : World) : (Instr.typeAssert (.iface 29 v) xT 183 true).run Tryd.prog w = .ok (.tuple #[.nilIface, .bool false]) w := run_typeAssert_lacksB Tryd.underlying183 (by kernel_rfl) (by kernel_rfl) v xT w
theorem errEq (a b : Int) (w : World) : (binOp .eql 118 (.iface 29 (.int .i64 a)) (.iface 29 (.int .i64 b))).run Tryd.prog w = .ok (.bool (a == b)) w := Lib.run_eql_iface_int w a b Tryd.underlying118 isComp Tryd.underlying29
set_option maxRecDepth 100000 in
theorem is_errno (a b : Int) (w : World) : Calls Tryd.prog 58 #[.iface 29 (.int .i64 a), .iface 29 (.int .i64 b)] w fun e w' => e = .returned (.bool (a == b)) ∧ w' = w := by
 have h8 := @run_callFunc_extern Tryd.prog 91 _ Extern.ReflectliteType.typeOf Tryd.func91 (by kernel_rfl) (by kernel_rfl) (by kernel_rfl) (by kernel_rfl)
 have cC := callComparable
 have tT := isTypeOf
 have mR := isMethodComparable
 have nE := noIsE
 have uE := noUnwrapE
 have vE := noUnwrapsE
 have hq := errEq
 go_enter Tryd.func58, Tryd.ntmps58
 go_wp2
 refine wp_loop_rounds 1 ?_
 rw [rounds_succ]
 by_cases hab : a = b
 ·have hb : (a == b) = true := by simp [hab]
  clear hab
  go_wp2
  go_ret
  exact ⟨ret_bool hb.symm, rfl⟩
 ·have hb : (a == b) = false := by simp [hab]
  clear hab
  go_wp2
  go_ret
  exact ⟨ret_bool hb.symm, rfl⟩
theorem is_nilerr (b : Int) (w : World) : Calls Tryd.prog 58 #[.nilIface, .iface 29 (.int .i64 b)] w fun e w' => e = .returned (.bool false) ∧ w' = w := by
 have hn := run_eql_iface_nil_left (P := Tryd.prog) w 29 (.int .i64 b) Tryd.underlying118
 go_enter Tryd.func58, Tryd.ntmps58
 go_wp2
 go_ret
 exact ⟨rfl, rfl⟩
end Go.Proofs.YtgipiplklaeplaaDoor
namespace Go.Proofs.YtgipiplklaeplaaDoor
noncomputable def outN (m : Mc) (l : List In) (steps : Int) : McO :=
 if steps.toNat < l.length then (match out m (l.take steps.toNat) with | .ok _ k => .err 110 k | .err e k => .err e k | .bad => .bad) else out m l
end Go.Proofs.YtgipiplklaeplaaDoor
namespace Go.Proofs.YtgipiplklaeplaaDoor
open Go.RowKit Go.Deep
theorem opF_call (o : Nat) (args : Array Value) (w : World) : (callFunc (opF o) args).run Tryd.prog w = .ok (.enter (opF o) args) w := by
 unfold opF
 split <;> kernel_rfl
def DT (w : World) : Prop := 0 < w.heap.size ∧ ∀ o : Nat, 1 ≤ o → o ≤ 13 → w.cell? ⟨0, o, none⟩ = some (.func (.func (opF o)) #[] #[])
theorem DT.below {w w' : World} (h : DT w) (hb : Below w.heap.size w w') : DT w' := ⟨Nat.lt_of_lt_of_le h.1 hb.size, fun o h1 h2 => (hb.cell (p := ⟨0, o, none⟩) h.1).trans (h.2 o h1 h2)⟩
def startM (l : List C) (tr : List Int) (r : Int) (args : List Int) : Mc := ⟨l, tr, r, args, 0, []⟩
def RetRun (w : World) (A B : Option Addr) (n c md d : Nat) (r : Int) (o : McO) (e : Ending) (w' : World) : Prop := match o with
 | .ok m k => ∃ A' c' B' d' G g, e = .returned (.tuple #[.agg #[.slice A' m.l.length c', .slice B' m.tr.length d', .int .i64 m.r], .slice G m.goals.length g, .int .i64 k, .int .i64 0]) ∧ w'.ownsRow w.heap.size 90 3 (.slice A' m.l.length c') m.l.length (flatC m.l) ∧ (∀ c ∈ m.l, c.wf) ∧ IsI w' B' m.tr.length d' m.tr ∧ w'.ownsRow w.heap.size 64 2 (.slice G m.goals.length g) m.goals.length (flatG m.goals) ∧ Below w.heap.size w w'
 | .err x k => e = .returned (.tuple #[.agg #[.slice A n c, .slice B md d, .int .i64 r], .slice none 0 0, .int .i64 k, .int .i64 x]) ∧ Below w.heap.size w w'
 | .bad => False
theorem Mx.set3 {w : World} {base bm : Nat} {m : Mc} {A B R G : Option Addr} {c d e f : Nat} (h : Mx w base bm m A c B d R e G f) {g : Nat} (hg : g < base) (v0 v1 v2 : Value) : Mx (((w.setCell ⟨g, 0, none⟩ v0).setCell ⟨g, 1, none⟩ v1).setCell ⟨g, 2, none⟩ v2) base bm m A c B d R e G f := by
 have hx : ∀ b : Nat, base ≤ b → (((w.setCell ⟨g, 0, none⟩ v0).setCell ⟨g, 1, none⟩ v1).setCell ⟨g, 2, none⟩ v2).heap[b]? = w.heap[b]? := fun b hb => by
  rw [set_other (by omega), set_other (by omega), set_other (by omega)]
 exact h.keep (hx _ h.lo) (fun x hx' => hx _ (Own0.lt h.a x hx').1) (fun x hx' => hx _ (Own0.lt h.b x hx').1) (fun x hx' => hx _ (Own0.lt h.r x hx').1) (fun x hx' => hx _ (Own0.lt h.g x hx').1)
theorem set3_block {w : World} {b : Nat} {o0 o1 o2 : Value} {t : TypeId} (h : w.heap[b]? = some (.cells #[o0, o1, o2] t (0, 0))) (v0 v1 v2 : Value) : (((w.setCell ⟨b, 0, none⟩ v0).setCell ⟨b, 1, none⟩ v1).setCell ⟨b, 2, none⟩ v2).heap[b]? = some (.cells #[v0, v1, v2] t (0, 0)) := by
 have h0 := set_block (k := 0) h v0
 have h1 := set_block (k := 1) h0 v1
 have h2 := set_block (k := 2) h1 v2
 simpa using h2
theorem set3_below {w X Z : World} (hX : Below w.heap.size w X) (hZ : Below X.heap.size X Z) {o0 o1 o2 : Value} {t : TypeId} (h : Z.heap[w.heap.size + 1]? = some (.cells #[o0, o1, o2] t (0, 0))) (v0 v1 v2 : Value) : Below w.heap.size w (((Z.setCell ⟨w.heap.size + 1, 0, none⟩ v0).setCell ⟨w.heap.size + 1, 1, none⟩ v1).setCell ⟨w.heap.size + 1, 2, none⟩ v2) := by
 have h1 := hX.trans (hZ.mono hX.size)
 exact ((h1.setCell (by simp) _).setCell (by simp) _).setCell (by simp) _
set_option maxRecDepth 100000 in
set_option maxHeartbeats 8000000 in
theorem kRun_any (A B Ra Kd : Option Addr) (n c md d p e k kc : Nat) (r steps : Int) (l : List C) (tr args : List Int) (L : List In) (w : World) (hc : IsC w A n c l) (ht : IsI w B md d tr) (hr : IsI w Ra p e args) (hK : IsK w Kd k kc L) (hdt : DT w)
  (ok : OkH ⟨l, tr, r⟩) (hp : p ≤ 1000) (hk : k ≤ 50000) (hst : i64 steps) (hbad : out (startM l tr r args) L ≠ .bad) :
  Calls Tryd.prog 19 #[.agg #[.slice A n c, .slice B md d, .int .i64 r], .slice Ra p e, .slice Kd k kc, .int .i64 steps] w (RetRun w A B n c md d r (outN (startM l tr r args) L steps)) := by
 have hlc := hc.len
 have hlt := ht.len
 obtain ⟨hl1, hl2⟩ := ok.tr_len11
 have hn5 : n ≤ 100000 := by omega
 have hm5 : md ≤ 100000 := by omega
 have hp5 : p ≤ 100000 := by omega
 have Hlr := Lib.hid hr.len
 have Hok := Lib.hid ok
 clear hlc hlt hl1 hl2 ok
 have hb0 : Below w.heap.size w ((w.alloc (.cells #[.slice A n c, .slice B md d, .int .i64 r] 44)).alloc (.cells #[.slice none 0 0, .slice none 0 0, .int .i64 0] 44)) := (basM _ _).alloc (by simp) _
 have HC0 := Lib.hid hc
 have HT0 := Lib.hid ht
 have HR0 := Lib.hid hr
 have HK0 := Lib.hid hK
 have HD0 := Lib.hid hdt
 have HB0 := Lib.hid hb0
 have Hbad := Lib.hid hbad
 clear hc ht hr hK hdt hb0 hbad
 go_enter Tryd.func19, Tryd.ntmps19
 go_upto_region 1 with fail
 refine wp_world' (Φ := fun X => Below w.heap.size w X ∧ X.heap[w.heap.size]? = some (.cells #[.slice A n c, .slice B md d, .int .i64 r] 44 (0, 0)) ∧ X.heap[w.heap.size + 1]? = some (.cells #[.slice none 0 0, .slice none 0 0, .int .i64 0] 44 (0, 0)))
  ⟨HB0.out, (alloc_past (by simp)).trans (alloc_at rfl), alloc_at (by simp)⟩ ?_
 rintro X ⟨hbX, hx0, hx1⟩
 have Hc := Lib.hid (HC0.out.below hbX)
 have Ht := Lib.hid (HT0.out.below hbX)
 have Hr := Lib.hid (HR0.out.below hbX)
 have Hx0 := Lib.hid hx0
 have Hx1 := Lib.hid hx1
 have HbX := Lib.hid hbX
 have hS : ∀ w', Below X.heap.size X w' → w'.cell? ⟨w.heap.size, 0, none⟩ = some (.slice A n c) ∧ w'.cell? ⟨w.heap.size, 1, none⟩ = some (.slice B md d) ∧ w'.cell? ⟨w.heap.size, 2, none⟩ = some (.int .i64 r) := fun w' hb => by
  obtain ⟨q0, q1, q2, _⟩ := open3 ((hb.block _ (block_lt Hx0.out)).trans Hx0.out)
  exact ⟨q0, q1, q2⟩
 clear hbX hx0 hx1 HB0
 go_cut [12] from 18 to 30 (fun v1 wx => ∃ bm : Nat, v1 = .pointer (some ⟨bm, 0, none⟩) ∧ Mm wx X.heap.size bm (startM l tr r args) ∧ Below X.heap.size X wx)
 case first =>
  refine wp_region_held_drew (S := fun w' => w'.cell? ⟨w.heap.size, 0, none⟩ = some (.slice A n c) ∧ w'.cell? ⟨w.heap.size, 1, none⟩ = some (.slice B md d) ∧ w'.cell? ⟨w.heap.size, 2, none⟩ = some (.int .i64 r)) (by kernel_rfl) ?gs ?gr
  case gs => exact hS _ (Below.refl _ _).drew
  case gr =>
  intro hHeld
  have HS := Lib.hid hS
  have HVV : Hid (Below X.heap.size X X.drew) := Lib.hid ((Below.refl _ _).drew)
  clear hS
  generalize X.drew = V at *
  refine stepH 0 hHeld ?_
  refine stepH 1 hHeld ?_
  refine stepH 3 hHeld ?_
  refine stepH 4 hHeld ?_
  refine stepH 6 hHeld ?_
  refine stepH 7 hHeld ?_
  refine stepH 9 hHeld ?_
  refine oneH 2 (fun K hK => ?_)
  go_simp
  go_at_call 56
  refine (cloneS_any A n c l V (Hc.out.below (HVV.out)) hn5).mono ?_
  rintro e9 v1 ⟨AS, cS, rfl, ho, hb⟩
  have HVv1 := Lib.hid (HVV.out.trans (hb.mono HVV.out.size))
  have HOSv1 := Lib.hid (own_lower ho HVV.out.size)
  clear ho hb
  try go_simp
  refine hK _ _ (HS.out _ HVv1.out) ?_
  clear hK K hHeld
  have hHeld := HS.out _ HVv1.out
  try simp only [Act.put, sA, sZ, sS]
  refine oneH 5 (fun K hK => ?_)
  go_simp
  go_at_call 57
  refine (cloneI_any B md d tr v1 (Ht.out.below (HVv1.out)) hm5).mono ?_
  rintro e9 v2 ⟨AT, cT, rfl, ho, hb⟩
  have HVv2 := Lib.hid (HVv1.out.trans (hb.mono HVv1.out.size))
  have HOTv2 := Lib.hid (own_lower ho HVv1.out.size)
  have HOSv2 := Lib.hid (own_below HOSv1.out hb)
  clear HOSv1
  have HLT := Lib.hid (fun (x : Addr) (hx : AT = some x) => (Own0.lt ho x hx).2)
  clear ho hb
  try go_simp
  refine hK _ _ (HS.out _ HVv2.out) ?_
  clear hK K hHeld
  have hHeld := HS.out _ HVv2.out
  try simp only [Act.put, sA, sZ, sS]
  refine stepH 8 hHeld ?_
  refine oneH 10 (fun K hK => ?_)
  go_simp
  go_at_call 57
  refine (cloneI_any Ra p e args v2 (Hr.out.below (HVv2.out)) hp5).mono ?_
  rintro e9 v3 ⟨AR, cR, rfl, ho, hb⟩
  have HVv3 := Lib.hid (HVv2.out.trans (hb.mono HVv2.out.size))
  have HORv3 := Lib.hid (own_lower ho HVv2.out.size)
  have HOSv3 := Lib.hid (own_below HOSv2.out hb)
  clear HOSv2
  have HOTv3 := Lib.hid (own_below HOTv2.out hb)
  clear HOTv2
  have HN := Lib.hid (fun (x y : Addr) (hx : AT = some x) (hy : AR = some y) => show x.block ≠ y.block by have h1 := (Own0.lt HOTv3.out x hx).2; have h2 := (Own0.lt ho y hy).1; have h3 := hb.size; have h4 := HLT.out x hx; omega)
  have HLR := Lib.hid (fun (x : Addr) (hx : AR = some x) => (Own0.lt ho x hx).2)
  clear ho hb
  try go_simp
  refine hK _ _ (HS.out _ HVv3.out) ?_
  clear hK K hHeld
  have hHeld := HS.out _ HVv3.out
  try simp only [Act.put, sA, sZ, sS]
  refine stepH 11 hHeld ?_
  have hMF : Mx (v3.alloc (.cells #[.slice AS n cS, .slice AT md cT, .int .i64 r, .slice AR p cR, .int .i64 0, .slice none 0 0] 116)) X.heap.size v3.heap.size (startM l tr r args) AS cS AT cT AR cR none 0 := by
   have q1 := Hc.out.len
   have q2 := Ht.out.len
   have q3 := Hr.out.len
   subst q1 q2 q3
   exact ⟨HVv3.out.size, alloc_at rfl, HOSv3.out.alloc _, HOTv3.out.alloc _, HORv3.out.alloc _, World.ownsRow_nil _ _ _ _, HN.out, Hc.out.wf, Ht.out.wf, Hr.out.wf⟩
  have HMF := Lib.hid hMF
  have HBF := Lib.hid (HVv3.out.alloc HVv3.out.size (.cells #[.slice AS n cS, .slice AT md cT, .int .i64 r, .slice AR p cR, .int .i64 0, .slice none 0 0] 116))
  refine oneH 12 (fun K hK => ?_)
  go_simp
  refine hK _ _ (HS.out _ HBF.out) ?_
  clear hK K hHeld
  have hHeld := HS.out _ HBF.out
  try simp only [Act.put, sA, sZ, sS]
  refine stepH 13 hHeld ?_
  refine wpAnyH_done (by kernel_rfl) ?_ _
  clear hMF
  go_wp2_with fail
  go_meet
  exact ⟨v3.heap.size, rfl, ⟨_, _, _, _, _, _, _, _, HMF.out⟩, HBF.out⟩
 case rest =>
  obtain ⟨bm, rfl, hM, hbw⟩ := hcut
  have HbW := Lib.hid hbw
  have HM0 := Lib.hid hM
  have hlen0 := HK0.out.len
  have Hlen := Lib.hid hlen0
  clear hM hbw hS hlen0
  refine ‹∀ (a : Act) (w : World), Code.wp _ _ _ a w → _› _ _ ?_
  go_wp2
  go_loopw [33] (fun iv wr => ∃ (kk : Nat) (m : Mc), kk ≤ k ∧ iv = .int .i64 kk ∧ Hid (out (startM l tr r args) (L.take kk) = .ok m kk) ∧ Hid (kk = 0 ∨ (kk : Int) ≤ steps) ∧ Hid (Mm wr X.heap.size bm m) ∧ Hid (Below X.heap.size X wr)) (fun iv _ => k - (intOf iv).toNat)
  case atStart => exact ⟨0, startM l tr r args, Nat.zero_le _, rfl, Lib.hid rfl, Lib.hid (.inl rfl), HM0, HbW⟩
  case round =>
   obtain ⟨kk, m, hkk, rfl, hrun, hks, hM, hbr⟩ := hrel
   clear HM0 HbW
   have hszr := hbr.out.size
   by_cases hlt : kk < k
   ·obtain ⟨i, hi⟩ : ∃ i, L[kk]? = some i := ⟨_, List.getElem?_eq_getElem (by have := Hlen.out; omega)⟩
    obtain ⟨hfit, hnext⟩ := out_fit Hbad.out hi hrun.out
    have hln := fold_ok _ hrun.out
    have hlr := Hlr.out
    simp only [startM, List.length_take, List.length_nil] at hln
    have hrl : m.regs.length ≤ 100000 := by omega
    have hgl : m.goals.length ≤ 100000 := by omega
    obtain ⟨b, off, hKd, hb, hiw, c0, c1, c2, c3, c4, c5⟩ := IsK.at' (IsG.below keepsIn (IsG.below keepsIn HK0.out HbX.out) hbr.out) hi
    have hcapk := HK0.out.cap_le
    have Hfit := Lib.hid hfit
    have Hnext := Lib.hid hnext
    have Hi := Lib.hid hi
    have Hiw := Lib.hid hiw
    clear hfit hnext hi hiw hln hlr
    have hcap1 := hcapk.1
    have hcap2 := hcapk.2
    unfold maxLen at hcap2
    subst hKd
    by_cases hs : (kk : Int) < steps
    ·obtain ⟨o, ho⟩ : ∃ o : Nat, i.op = (o : Int) := ⟨i.op.toNat, by have := Hfit.out.op; omega⟩
     have ho1 : 1 ≤ o ∧ o ≤ 13 := by have := Hfit.out.op; omega
     have Hstep := Lib.hid (fun V h1 => kStep_any X.heap.size bm m i V h1 Hfit.out Hiw.out hrl hgl)
     rw [show i.op.toNat = o by omega, show i.val = .agg #[.int .i64 (o : Int), .int .i64 i.x, .int .i64 i.a, .string i.name, .int .i64 i.n, .bool i.neg] by unfold In.val; rw [ho]] at Hstep
     go_upto_region 7 with fail
     refine wp_world' (Φ := fun Y => Below X.heap.size X Y ∧ Mm Y X.heap.size bm m ∧ Y.heap[wr.heap.size]? = some (.cells #[.int .i64 (o : Int), .int .i64 i.x, .int .i64 i.a, .string i.name, .int .i64 i.n, .bool i.neg] 88 (0, 0)))
      ⟨hbr.out.alloc hszr _, hM.out.below ((Below.refl _ _).alloc (Nat.le_refl _) _), alloc_at rfl⟩ ?_
     rintro Y ⟨hY, hMY, hbox⟩
     have hD := (((HD0.out.below HbX.out).below hY).2 o ho1.1 ho1.2)
     obtain ⟨ho1, ho2⟩ := ho1
     have ho3 : (14 ≤ (o : Int)) = False := by simp; omega
     have ho4 : (o : Int) < 14 := by omega
     have hD0 := ((HD0.out.below HbX.out).below hY).1
     obtain ⟨y0, y1, y2, y3, y4, y5, yl⟩ := open6 hbox
     have HMV := Lib.hid (hMY.below (Below.refl _ _).drew)
     have HYV := Lib.hid hY.drew
     clear c0 c1 c2 c3 c4 c5 hY hb hMY hbox
     go_still_tail 6, (by kernel_rfl)
     change wpList _ _ _ _ _ Y.drew
     have hszV := HYV.out.size
     clear y0 y1 y2 y3 y4 y5 yl hD hD0
     have hcf := opF_call o
     generalize opF o = fo at *
     generalize Y.drew = V at *
     cases hs2 : stepF m i with
     | ok m' =>
      rw [hs2] at Hstep
      have hnx := Hnext.out
      rw [hs2] at hnx
      clear Hnext
      have Hnext := Lib.hid hnx
      clear hnx hs2
      go_wp2_with (first | (refine (Hstep.out V HMV.out hszV).mono ?_; rintro e1 w1 ⟨rfl, hM1, hb1, hk1⟩; have HM1 := Lib.hid hM1; have Hb1 := Lib.hid (HYV.out.trans hb1); clear hM1 hb1 hk1))
      refine wp_loop_rounds 4 ?_
      rw [rounds_succ]
      go_wp2_with (first | (go_at_call 58; go_must (refine (is_nilerr _ _).mono ?_); rintro e1 w2 ⟨rfl, rfl⟩))
      rw [rounds_succ]
      go_wp2_with (first | (go_at_call 58; go_must (refine (is_nilerr _ _).mono ?_); rintro e1 w2 ⟨rfl, rfl⟩))
      rw [rounds_succ]
      go_wp2_with (first | (go_at_call 58; go_must (refine (is_nilerr _ _).mono ?_); rintro e1 w2 ⟨rfl, rfl⟩))
      rw [rounds_succ]
      go_wp2
      refine ⟨⟨kk + 1, m', by omega, by simp, Lib.hid Hnext.out, Lib.hid (.inr (by omega)), Lib.hid (HM1.out.below ((Below.refl _ _).alloc (Nat.le_refl _) _)), Lib.hid (Hb1.out.alloc (by have := Hb1.out.size; omega) _)⟩, ?_⟩
      simp [intOf]
      omega
     | err x =>
      rw [hs2] at Hstep
      have hnx := Hnext.out
      rw [hs2] at hnx
      clear Hnext
      have hx := step_err hs2
      clear hs2
      have hfin : outN (startM l tr r args) L steps = .err x kk := by
       have htl : ∀ j, kk < j → out (startM l tr r args) (L.take j) = .err x kk := fun j hj => by
        have e := out_app (startM l tr r args) (L.take (kk + 1)) ((L.take j).drop (kk + 1))
        rw [show L.take (kk + 1) ++ (L.take j).drop (kk + 1) = L.take j by
         have := List.take_append_drop (kk + 1) (L.take j)
         rw [List.take_take, Nat.min_eq_left (by omega)] at this
         exact this, hnx, fold_err] at e
        exact e
       unfold outN
       split
       ·rw [htl _ (by omega)]
       ·have e := htl L.length (by have := Hlen.out; omega)
        rwa [List.take_length] at e
      have Hfin := Lib.hid hfin
      clear hnx hfin
      go_wp2_with (first | (refine (Hstep.out V HMV.out hszV).mono ?_; rintro e1 w1 ⟨rfl, hb1, hk1⟩; have Hb1 := Lib.hid (HYV.out.trans hb1); clear hb1 hk1))
      refine wp_loop_rounds 4 ?_
      rw [rounds_succ]
      rcases hx with rfl | rfl
      ·go_wp2_with (first | (go_at_call 58; go_must (refine (is_errno _ _ _).mono ?_); rintro e1 w2 ⟨rfl, rfl⟩))
       rw [rounds_succ]
       go_wp2_with (first | (go_at_call 58; go_must (refine (is_errno _ _ _).mono ?_); rintro e1 w2 ⟨rfl, rfl⟩))
       rw [rounds_succ]
       go_upto_region 12 with (first | (go_at_call 58; go_must (refine (is_errno _ _ _).mono ?_); rintro e1 w2 ⟨rfl, rfl⟩))
       refine wp_world' (Φ := fun Z => Below X.heap.size X Z) (Hb1.out.alloc (by have := Hb1.out.size; omega) _) ?_
       intro Z hZ
       have hz0 := (hZ.block _ (block_lt Hx0.out)).trans Hx0.out
       have hz1 := (hZ.block _ (block_lt Hx1.out)).trans Hx1.out
       obtain ⟨q0, q1, q2, _⟩ := open3 hz0
       obtain ⟨r0, r1, r2, _⟩ := open3 hz1
       have hfz := set3_below HbX.out hZ hz1 (.slice A n c) (.slice B md d) (.int .i64 r)
       have f0 := frozen_of hz1 0
       have f1 := frozen_of hz1 1
       have f2 := frozen_of hz1 2
       obtain ⟨s0, s1, s2, _⟩ := open3 (set3_block hz1 (.slice A n c) (.slice B md d) (.int .i64 r))
       go_wp2
       refine bodyPost_ret (v := .tuple #[.agg #[.slice A n c, .slice B md d, .int .i64 r], .slice none 0 0, .int .i64 kk, .int .i64 3]) (by simp [results, Tryd.results19, go_sem, *]) rfl ?_
       rw [Hfin.out]
       exact ⟨rfl, hfz⟩
      ·go_wp2_with (first | (go_at_call 58; go_must (refine (is_errno _ _ _).mono ?_); rintro e1 w2 ⟨rfl, rfl⟩))
       rw [rounds_succ]
       go_upto_region 12 with (first | (go_at_call 58; go_must (refine (is_errno _ _ _).mono ?_); rintro e1 w2 ⟨rfl, rfl⟩))
       refine wp_world' (Φ := fun Z => Below X.heap.size X Z) (Hb1.out.alloc (by have := Hb1.out.size; omega) _) ?_
       intro Z hZ
       have hz0 := (hZ.block _ (block_lt Hx0.out)).trans Hx0.out
       have hz1 := (hZ.block _ (block_lt Hx1.out)).trans Hx1.out
       obtain ⟨q0, q1, q2, _⟩ := open3 hz0
       obtain ⟨r0, r1, r2, _⟩ := open3 hz1
       have hfz := set3_below HbX.out hZ hz1 (.slice A n c) (.slice B md d) (.int .i64 r)
       have f0 := frozen_of hz1 0
       have f1 := frozen_of hz1 1
       have f2 := frozen_of hz1 2
       obtain ⟨s0, s1, s2, _⟩ := open3 (set3_block hz1 (.slice A n c) (.slice B md d) (.int .i64 r))
       go_wp2
       refine bodyPost_ret (v := .tuple #[.agg #[.slice A n c, .slice B md d, .int .i64 r], .slice none 0 0, .int .i64 kk, .int .i64 80]) (by simp [results, Tryd.results19, go_sem, *]) rfl ?_
       rw [Hfin.out]
       exact ⟨rfl, hfz⟩
    ·have hts : (L.take steps.toNat) = L.take kk := by
      rcases hks.out with h | h
      ·subst h
       rw [show steps.toNat = 0 by omega]
      ·rw [show steps.toNat = kk by omega]
     have hfin : outN (startM l tr r args) L steps = .err 110 kk := by
      unfold outN
      rw [if_pos (by have := Hlen.out; omega), hts, hrun.out]
     have Hfin := Lib.hid hfin
     clear hts hfin
     go_upto_region 8 with fail
     refine wp_world' (Φ := fun Y => Below X.heap.size X Y) (hbr.out.alloc hszr _) ?_
     intro Y hY
     have HY := Lib.hid hY
     have hszY := hY.size
     clear c0 c1 c2 c3 c4 c5 hY hb
     go_wp2
     refine wp_loop_rounds 4 ?_
     rw [rounds_succ]
     go_upto_region 12 with (first
      | (go_at_call 58; go_must (refine (is_errno 110 110 _).mono ?_); rintro e1 w1 ⟨rfl, rfl⟩))
     refine wp_world' (Φ := fun Z => Below X.heap.size X Z) (HY.out.alloc hszY _) ?_
     intro Z hZ
     have hz0 := (hZ.block _ (block_lt Hx0.out)).trans Hx0.out
     have hz1 := (hZ.block _ (block_lt Hx1.out)).trans Hx1.out
     obtain ⟨q0, q1, q2, _⟩ := open3 hz0
     obtain ⟨r0, r1, r2, _⟩ := open3 hz1
     have hfz := set3_below HbX.out hZ hz1 (.slice A n c) (.slice B md d) (.int .i64 r)
     have f0 := frozen_of hz1 0
     have f1 := frozen_of hz1 1
     have f2 := frozen_of hz1 2
     obtain ⟨s0, s1, s2, _⟩ := open3 (set3_block hz1 (.slice A n c) (.slice B md d) (.int .i64 r))
     go_wp2
     refine bodyPost_ret (v := .tuple #[.agg #[.slice A n c, .slice B md d, .int .i64 r], .slice none 0 0, .int .i64 kk, .int .i64 110]) (by simp [results, Tryd.results19, go_sem, *]) rfl ?_
     rw [Hfin.out]
     exact ⟨rfl, hfz⟩
   ·obtain rfl : kk = k := by omega
    have hfin : outN (startM l tr r args) L steps = .ok m kk := by
     have hl := Hlen.out
     have hr := hrun.out
     rw [List.take_of_length_le (by omega)] at hr
     unfold outN
     rw [if_neg (by have := hks.out; omega), hr]
    have Hfin := Lib.hid hfin
    clear hfin
    go_upto_region 15 with fail
    obtain ⟨A', c', B', d', R', e', G', g', hMx⟩ := hM.out
    have hMv := hMx.below (Below.refl _ _).drew
    have HYV := Lib.hid hbr.out.drew
    clear hMx
    have hSm : ∀ w', Mx w' X.heap.size bm m A' c' B' d' R' e' G' g' → w'.cell? ⟨bm, 0, none⟩ = some (.slice A' m.l.length c') ∧ w'.cell? ⟨bm, 1, none⟩ = some (.slice B' m.tr.length d') ∧ w'.cell? ⟨bm, 2, none⟩ = some (.int .i64 m.r) ∧ w'.cell? ⟨bm, 5, none⟩ = some (.slice G' m.goals.length g') := fun w' hh => by
     obtain ⟨q0, q1, q2, _, _, q5, _⟩ := open6 hh.blk
     exact ⟨q0, q1, q2, q5⟩
    refine wp_region_held_drew (S := fun w' => w'.cell? ⟨bm, 0, none⟩ = some (.slice A' m.l.length c') ∧ w'.cell? ⟨bm, 1, none⟩ = some (.slice B' m.tr.length d') ∧ w'.cell? ⟨bm, 2, none⟩ = some (.int .i64 m.r) ∧ w'.cell? ⟨bm, 5, none⟩ = some (.slice G' m.goals.length g')) (by kernel_rfl) ?gs ?gr
    case gs => exact hSm _ hMv
    case gr =>
     intro hHeld
     have HMV := Lib.hid hMv
     have HSm := Lib.hid hSm
     clear hMv hSm
     generalize wr.drew = V at *
     refine stepH 0 hHeld ?_
     refine stepH 1 hHeld ?_
     refine stepH 2 hHeld ?_
     refine stepH 3 hHeld ?_
     refine stepH 4 hHeld ?_
     refine stepH 5 hHeld ?_
     refine stepH 6 hHeld ?_
     refine stepH 7 hHeld ?_
     refine stepH 8 hHeld ?_
     refine stepH 9 hHeld ?_
     have hz1 := (HYV.out.block _ (block_lt Hx1.out)).trans Hx1.out
     obtain ⟨r0, r1, r2, _⟩ := open3 hz1
     have f0 := frozen_of hz1 0
     have f1 := frozen_of hz1 1
     have f2 := frozen_of hz1 2
     refine oneH 10 (fun K hK => ?_)
     go_simp
     have HF := Lib.hid (HMV.out.set3 (g := w.heap.size + 1) (by have := block_lt Hx1.out; omega) (.slice A' m.l.length c') (.slice B' m.tr.length d') (.int .i64 m.r))
     have HFb := Lib.hid (set3_below HbX.out HYV.out hz1 (.slice A' m.l.length c') (.slice B' m.tr.length d') (.int .i64 m.r))
     obtain ⟨s0, s1, s2, _⟩ := open3 (set3_block hz1 (.slice A' m.l.length c') (.slice B' m.tr.length d') (.int .i64 m.r))
     clear hz1 r0 r1 r2 f0 f1 f2
     refine hK _ _ (HSm.out _ HF.out) ?_
     clear hK K hHeld
     have hHeld := HSm.out _ HF.out
     try simp only [Act.put, sA, sZ, sS]
     refine stepH 11 hHeld ?_
     refine stepH 12 hHeld ?_
     refine stepH 13 hHeld ?_
     refine wpAnyH_done (by kernel_rfl) ?_ _
     go_wp2
     refine bodyPost_ret (v := .tuple #[.agg #[.slice A' m.l.length c', .slice B' m.tr.length d', .int .i64 m.r], .slice G' m.goals.length g', .int .i64 kk, .int .i64 0]) (by simp [results, Tryd.results19, go_sem, *]) rfl ?_
     rw [Hfin.out]
     exact ⟨A', c', B', d', G', g', rfl, own_lower HF.out.a HbX.out.size, HF.out.wfc, HF.out.isB, own_lower HF.out.g HbX.out.size, HFb.out⟩
end Go.Proofs.YtgipiplklaeplaaDoor
namespace Go.Proofs.YtgipiplklaeplaaDoor
open Go.ChangeShapes Go.WideShapes Go.RowKit
theorem gDoes : Tryd.prog.globalNamed "sorrel/mach.does" = some 0 := by kernel_rfl
theorem gDoesT : (Tryd.prog.globals[0]?).map (·.type) = some 120 := by kernel_rfl
theorem cellsFnM : Tryd.prog.cellsOf 119 = 1 := by kernel_rfl
def doesL : List (DataW (List UInt8)) := [.nil, .held [40, 42, 115, 111, 114, 114, 101, 108, 47, 109, 97, 99, 104, 46, 109, 97, 99, 104, 105, 110, 101, 41, 46, 103, 101, 116, 86, 97, 114], .held [40, 42, 115, 111, 114, 114, 101, 108, 47, 109, 97, 99, 104, 46, 109, 97, 99, 104, 105, 110, 101, 41, 46, 103, 101, 116, 86, 97, 108], .held [40, 42, 115, 111, 114, 114, 101, 108, 47, 109, 97, 99, 104, 46, 109, 97, 99, 104, 105, 110, 101, 41, 46, 103, 101, 116, 73, 110, 116], .held [40, 42, 115, 111, 114, 114, 101, 108, 47, 109, 97, 99, 104, 46, 109, 97, 99, 104, 105, 110, 101, 41, 46, 103, 101, 116, 70, 117, 110], .held [40, 42, 115, 111, 114, 114, 101, 108, 47, 109, 97, 99, 104, 46, 109, 97, 99, 104, 105, 110, 101, 41, 46, 115, 101, 116, 86, 97, 114], .held [40, 42, 115, 111, 114, 114, 101, 108, 47, 109, 97, 99, 104, 46, 109, 97, 99, 104, 105, 110, 101, 41, 46, 117, 110, 105, 86, 97, 108], .held [40, 42, 115, 111, 114, 114, 101, 108, 47, 109, 97, 99, 104, 46, 109, 97, 99, 104, 105, 110, 101, 41, 46, 117, 110, 105, 73, 110, 116], .held [40, 42, 115, 111, 114, 114, 101, 108, 47, 109, 97, 99, 104, 46, 109, 97, 99, 104, 105, 110, 101, 41, 46, 112, 117, 116, 70, 117, 110], .held [40, 42, 115, 111, 114, 114, 101, 108, 47, 109, 97, 99, 104, 46, 109, 97, 99, 104, 105, 110, 101, 41, 46, 115, 101, 116, 86, 97, 114], .held [40, 42, 115, 111, 114, 114, 101, 108, 47, 109, 97, 99, 104, 46, 109, 97, 99, 104, 105, 110, 101, 41, 46, 115, 101, 116, 86, 97, 108], .held [40, 42, 115, 111, 114, 114, 101, 108, 47, 109, 97, 99, 104, 46, 109, 97, 99, 104, 105, 110, 101, 41, 46, 115, 101, 116, 73, 110, 116], .held [40, 42, 115, 111, 114, 114, 101, 108, 47, 109, 97, 99, 104, 46, 109, 97, 99, 104, 105, 110, 101, 41, 46, 99, 97, 108, 108], .held [40, 42, 115, 111, 114, 114, 101, 108, 47, 109, 97, 99, 104, 46, 109, 97, 99, 104, 105, 110, 101, 41, 46, 114, 101, 115, 116]]
theorem does_out : (DataW.agg doesL : DataW (List UInt8)) = (match (Rows.laid_sorrel_mach_does : DataW Unit) with | .iface _ d => d.funcsOut | _ => .nil) := by kernel_rfl
theorem does_cell {W : World} (h : laidMetH Tryd.prog [("sorrel/mach.does", Rows.laid_sorrel_mach_does)] W) {o : Nat} (ho : o < 14) {b : UInt8} {r : List UInt8} {f0 : FuncId} (hL : doesL[o]? = some (.held (b :: r)))
  (hone : ((List.range Tryd.prog.funcs.size).filter fun f => (Tryd.prog.funcs[f]?).any (·.name.toUTF8.data.toList == b :: r)) = [f0]) : W.cell? ⟨0, o, none⟩ = some (.func (.func f0) #[] #[]) := by
 obtain ⟨g, t, cs, fuel, p, hg, ht, hv, hd⟩ := h.funcs (List.mem_singleton.2 rfl)
 obtain rfl := Option.some.inj (gDoes.symm.trans hg)
 obtain rfl := Option.some.inj (gDoesT.symm.trans ht)
 have hd' : DataW.trod (funcToken Tryd.prog) Tryd.prog W 0 (fun _ => true) true fuel 120 cs.toList = some (DataW.agg doesL, p) := by rw [does_out]; exact hd
 obtain ⟨xs, m, _, ex, hlen, hl, hel⟩ := DataW.trod_array Tryd.underlying120 hd'
 have e3 : xs.map (·.1) = doesL := (DataW.agg.inj (Prod.mk.inj ex).1).symm
 have hE := hel o ho
 rw [cellsFnM, Nat.mul_one, List.getElem?_eq_getElem (by omega)] at hE
 have e4 : (xs.map (·.1))[o]? = doesL[o]? := by rw [e3]
 rw [List.getElem?_map, List.getElem?_eq_getElem (by omega : o < xs.length), hL] at e4
 have e5 : (xs[o]'(by omega)) = (.held (b :: r), (xs[o]'(by omega)).2) := Prod.ext (by simpa using e4) rfl
 have hlen1 : cs.toList.length = 14 := by rw [hlen]; kernel_rfl
 have hol : o < cs.toList.length := by omega
 have e6 : (cs.toList.drop o).take 1 = [cs.toList[o]] := by
  rw [List.drop_eq_getElem_cons hol]
  rfl
 rw [e6, e5] at hE
 have hf := func_of_trod (f0 := f0) Tryd.underlying119 hone hE
 rw [World.var?_cell hg hv o]
 have : cs.toList[o]? = some (.func (.func f0) #[] #[]) := by rw [List.getElem?_eq_getElem hol, hf]
 simpa using this
theorem dt_of_laid {W : World} (h : laidMetH Tryd.prog [("sorrel/mach.does", Rows.laid_sorrel_mach_does)] W) : DT W := by
 have key : ∀ o : Nat, 1 ≤ o → o ≤ 13 → W.cell? ⟨0, o, none⟩ = some (.func (.func (opF o)) #[] #[]) := fun o h1 h2 => by
  obtain rfl | rfl | rfl | rfl | rfl | rfl | rfl | rfl | rfl | rfl | rfl | rfl | rfl : o = 1 ∨ o = 2 ∨ o = 3 ∨ o = 4 ∨ o = 5 ∨ o = 6 ∨ o = 7 ∨ o = 8 ∨ o = 9 ∨ o = 10 ∨ o = 11 ∨ o = 12 ∨ o = 13 := by omega
  ·exact does_cell h (o := 1) (by omega) (hL := rfl) (by kernel_rfl)
  ·exact does_cell h (o := 2) (by omega) (hL := rfl) (by kernel_rfl)
  ·exact does_cell h (o := 3) (by omega) (hL := rfl) (by kernel_rfl)
  ·exact does_cell h (o := 4) (by omega) (hL := rfl) (by kernel_rfl)
  ·exact does_cell h (o := 5) (by omega) (hL := rfl) (by kernel_rfl)
  ·exact does_cell h (o := 6) (by omega) (hL := rfl) (by kernel_rfl)
  ·exact does_cell h (o := 7) (by omega) (hL := rfl) (by kernel_rfl)
  ·exact does_cell h (o := 8) (by omega) (hL := rfl) (by kernel_rfl)
  ·exact does_cell h (o := 9) (by omega) (hL := rfl) (by kernel_rfl)
  ·exact does_cell h (o := 10) (by omega) (hL := rfl) (by kernel_rfl)
  ·exact does_cell h (o := 11) (by omega) (hL := rfl) (by kernel_rfl)
  ·exact does_cell h (o := 12) (by omega) (hL := rfl) (by kernel_rfl)
  ·exact does_cell h (o := 13) (by omega) (hL := rfl) (by kernel_rfl)
 exact ⟨World.block_lt_of_cell? W _ (key 1 (by omega) (by omega)), key⟩
theorem door_met (os : Os) (args : Array Value) : laidMetH Tryd.prog [("sorrel/mach.does", Rows.laid_sorrel_mach_does)] ((World.doorLaid Tryd.prog 600 os).forCall (fun _ _ => 0) ⟨#[], args, []⟩).memory :=
 laidMetH_of_parts3 (fuel := 8) (laidMet_of_run' 8 (by kernel_rfl) (by kernel_rfl)) (by kernel_rfl) (by kernel_rfl)
end Go.Proofs.YtgipiplklaeplaaDoor
