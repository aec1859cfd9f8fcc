/- The card of RealOrders holds: for every input the law returns true, and its arguments read as before. No condition. -/
import Derived.Test.YthdaimoankaciaaGreatDoorCardC
import Derived.Test.YthdaimoankaciaaGreatDoorMB
set_option linter.unusedSimpArgs false
set_option linter.unusedVariables false
namespace Go.Proofs.YthdaimoankaciaaGreatDoor
open Go.ChangeShapes Go.WideShapes Go.ChangeAt Go.RowKit
open Go
open Go.Sy in
theorem RealOrders_c (b1 : Bool) (s1 : ByteArray) (b2 : Bool) (s2 : ByteArray) (b3 : Bool) (s3 : ByteArray) (b4 : Bool) (s4 : ByteArray) (n : Bool) (b5 : Bool) (s5 : ByteArray) (b6 : Bool) (s6 : ByteArray) (b7 : Bool) (s7 : ByteArray) (b8 : Bool) (s8 : ByteArray) (n2 : Bool) (b9 : Bool) (s9 : ByteArray) (b10 : Bool) (s10 : ByteArray) (b11 : Bool) (s11 : ByteArray) (b12 : Bool) (s12 : ByteArray) (n3 : Bool) (w : World) (hw : w.ShapedOpen Tryz.prog) (h1 : Lim s1) (h2 : Lim s2) (h3 : Lim s3) (h4 : Lim s4) (h5 : Lim s5) (h6 : Lim s6) (h7 : Lim s7) (h8 : Lim s8) (h9 : Lim s9) (h10 : Lim s10) (h11 : Lim s11) (h12 : Lim s12) : Calls Tryz.prog 6 #[flV b1 s1 b2 s2 b3 s3 b4 s4 n, flV b5 s5 b6 s6 b7 s7 b8 s8 n2, flV b9 s9 b10 s10 b11 s11 b12 s12 n3] w fun e w' => e = .returned (.bool true) ∧ Below w.heap.size w w' := (RealOrders_s b1 s1 b2 s2 b3 s3 b4 s4 n b5 s5 b6 s6 b7 s7 b8 s8 n2 b9 s9 b10 s10 b11 s11 b12 s12 n3 h1 h2 h3 h4 h5 h6 h7 h8 h9 h10 h11 h12).calls rfl rfl w hw
namespace RealOrders
set_option maxRecDepth 100000 in
set_option maxHeartbeats 1000000 in
theorem contract (H : Type) (enc : TypeId × Value → H) (W : World) (base : Nat) (args : Array Value) (ds gs : List (DataW H)) (before : List MemPlace)
    (hval : ∀ (j : Nat) t v, Tryz.f6.params[j]? = some t → args[j]? = some v → Value.okWide Tryz.prog W .any base t v)
    (hW : DataW.Whole enc Tryz.prog Tryz.f6.params.toList Rows.realOrdersSpec.vars false W args.toList ds gs before)
    (hR : (DataW.weightsEach Tryz.prog (Tryz.f6.params.toList ++ (OpenSpec.ofChange Rows.realOrdersSpec).bare.plain.varTypes Tryz.prog) (ds ++ gs)).all (· ≤ reachBytes) = true) (hS : W.ShapedOpen Tryz.prog) :
    Calls Tryz.prog 6 args W fun e W' => ∃ v, e = .returned v ∧ Rows.realOrdersSpec.post enc Tryz.prog Tryz.f6 false true false false W args v W' := by
 have hW' := hW
 obtain ⟨p, q, hA0, hV, rfl, hfz, hnd⟩ := hW
 have hA : DataW.TrodAll enc Tryz.prog W 0 (fun _ => true) true Tryz.f6.params.toList args.toList ds p := hA0
 rw [Tryz.params6] at hA hval
 obtain ⟨v0, vs0, d0, ds0, p0, q0, hargs0, rfl, rfl, h0, r0⟩ := trodAll_cons hA
 obtain ⟨v1, vs1, d1, ds1, p1, q1, hargs1, rfl, rfl, h1, r1⟩ := trodAll_cons r0
 obtain ⟨v2, vs2, d2, ds2, p2, q2, hargs2, rfl, rfl, h2, r2⟩ := trodAll_cons r1
 obtain ⟨hn, rfl, rfl⟩ := trodAll_nil r2
 obtain rfl : args = #[v0, v1, v2] := by cases args; simp_all
 obtain ⟨rfl, rfl⟩ := trodVars_none hV
 obtain ⟨cs0, rfl, rfl, f0_0, t0⟩ := Go.Flat.open_flatB (j := 0) (ls := [.b, .s, .b, .s, .b, .s, .b, .s, .b]) 6 (by kernel_rfl) (by kernel_rfl) hR (by kernel_rfl) rfl (hval 0 27 v0 rfl rfl) h0
 obtain ⟨_, e0_0, rfl, ⟨a0_0, rfl⟩, f0_1⟩ := Go.Flat.fitsB_cons f0_0
 obtain ⟨_, e0_1, rfl, ⟨a0_1, rfl, y0_1⟩, f0_2⟩ := Go.Flat.fitsB_cons f0_1
 have z0_1 : a0_1.size ≤ 4611686018427387903 := Nat.le_trans y0_1 (by decide)
 obtain ⟨_, e0_2, rfl, ⟨a0_2, rfl⟩, f0_3⟩ := Go.Flat.fitsB_cons f0_2
 obtain ⟨_, e0_3, rfl, ⟨a0_3, rfl, y0_3⟩, f0_4⟩ := Go.Flat.fitsB_cons f0_3
 have z0_3 : a0_3.size ≤ 4611686018427387903 := Nat.le_trans y0_3 (by decide)
 obtain ⟨_, e0_4, rfl, ⟨a0_4, rfl⟩, f0_5⟩ := Go.Flat.fitsB_cons f0_4
 obtain ⟨_, e0_5, rfl, ⟨a0_5, rfl, y0_5⟩, f0_6⟩ := Go.Flat.fitsB_cons f0_5
 have z0_5 : a0_5.size ≤ 4611686018427387903 := Nat.le_trans y0_5 (by decide)
 obtain ⟨_, e0_6, rfl, ⟨a0_6, rfl⟩, f0_7⟩ := Go.Flat.fitsB_cons f0_6
 obtain ⟨_, e0_7, rfl, ⟨a0_7, rfl, y0_7⟩, f0_8⟩ := Go.Flat.fitsB_cons f0_7
 have z0_7 : a0_7.size ≤ 4611686018427387903 := Nat.le_trans y0_7 (by decide)
 obtain ⟨_, e0_8, rfl, ⟨a0_8, rfl⟩, f0_9⟩ := Go.Flat.fitsB_cons f0_8
 obtain rfl := Go.Flat.fitsB_nil f0_9
 obtain ⟨cs1, rfl, rfl, f1_0, t1⟩ := Go.Flat.open_flatB (j := 1) (ls := [.b, .s, .b, .s, .b, .s, .b, .s, .b]) 6 (by kernel_rfl) (by kernel_rfl) hR (by kernel_rfl) rfl (hval 1 27 v1 rfl rfl) h1
 obtain ⟨_, e1_0, rfl, ⟨a1_0, rfl⟩, f1_1⟩ := Go.Flat.fitsB_cons f1_0
 obtain ⟨_, e1_1, rfl, ⟨a1_1, rfl, y1_1⟩, f1_2⟩ := Go.Flat.fitsB_cons f1_1
 have z1_1 : a1_1.size ≤ 4611686018427387903 := Nat.le_trans y1_1 (by decide)
 obtain ⟨_, e1_2, rfl, ⟨a1_2, rfl⟩, f1_3⟩ := Go.Flat.fitsB_cons f1_2
 obtain ⟨_, e1_3, rfl, ⟨a1_3, rfl, y1_3⟩, f1_4⟩ := Go.Flat.fitsB_cons f1_3
 have z1_3 : a1_3.size ≤ 4611686018427387903 := Nat.le_trans y1_3 (by decide)
 obtain ⟨_, e1_4, rfl, ⟨a1_4, rfl⟩, f1_5⟩ := Go.Flat.fitsB_cons f1_4
 obtain ⟨_, e1_5, rfl, ⟨a1_5, rfl, y1_5⟩, f1_6⟩ := Go.Flat.fitsB_cons f1_5
 have z1_5 : a1_5.size ≤ 4611686018427387903 := Nat.le_trans y1_5 (by decide)
 obtain ⟨_, e1_6, rfl, ⟨a1_6, rfl⟩, f1_7⟩ := Go.Flat.fitsB_cons f1_6
 obtain ⟨_, e1_7, rfl, ⟨a1_7, rfl, y1_7⟩, f1_8⟩ := Go.Flat.fitsB_cons f1_7
 have z1_7 : a1_7.size ≤ 4611686018427387903 := Nat.le_trans y1_7 (by decide)
 obtain ⟨_, e1_8, rfl, ⟨a1_8, rfl⟩, f1_9⟩ := Go.Flat.fitsB_cons f1_8
 obtain rfl := Go.Flat.fitsB_nil f1_9
 obtain ⟨cs2, rfl, rfl, f2_0, t2⟩ := Go.Flat.open_flatB (j := 2) (ls := [.b, .s, .b, .s, .b, .s, .b, .s, .b]) 6 (by kernel_rfl) (by kernel_rfl) hR (by kernel_rfl) rfl (hval 2 27 v2 rfl rfl) h2
 obtain ⟨_, e2_0, rfl, ⟨a2_0, rfl⟩, f2_1⟩ := Go.Flat.fitsB_cons f2_0
 obtain ⟨_, e2_1, rfl, ⟨a2_1, rfl, y2_1⟩, f2_2⟩ := Go.Flat.fitsB_cons f2_1
 have z2_1 : a2_1.size ≤ 4611686018427387903 := Nat.le_trans y2_1 (by decide)
 obtain ⟨_, e2_2, rfl, ⟨a2_2, rfl⟩, f2_3⟩ := Go.Flat.fitsB_cons f2_2
 obtain ⟨_, e2_3, rfl, ⟨a2_3, rfl, y2_3⟩, f2_4⟩ := Go.Flat.fitsB_cons f2_3
 have z2_3 : a2_3.size ≤ 4611686018427387903 := Nat.le_trans y2_3 (by decide)
 obtain ⟨_, e2_4, rfl, ⟨a2_4, rfl⟩, f2_5⟩ := Go.Flat.fitsB_cons f2_4
 obtain ⟨_, e2_5, rfl, ⟨a2_5, rfl, y2_5⟩, f2_6⟩ := Go.Flat.fitsB_cons f2_5
 have z2_5 : a2_5.size ≤ 4611686018427387903 := Nat.le_trans y2_5 (by decide)
 obtain ⟨_, e2_6, rfl, ⟨a2_6, rfl⟩, f2_7⟩ := Go.Flat.fitsB_cons f2_6
 obtain ⟨_, e2_7, rfl, ⟨a2_7, rfl, y2_7⟩, f2_8⟩ := Go.Flat.fitsB_cons f2_7
 have z2_7 : a2_7.size ≤ 4611686018427387903 := Nat.le_trans y2_7 (by decide)
 obtain ⟨_, e2_8, rfl, ⟨a2_8, rfl⟩, f2_9⟩ := Go.Flat.fitsB_cons f2_8
 obtain rfl := Go.Flat.fitsB_nil f2_9
 clear hA0
 simp only [List.append_nil] at hW'
 refine (RealOrders_c a0_0 a0_1 a0_2 a0_3 a0_4 a0_5 a0_6 a0_7 a0_8 a1_0 a1_1 a1_2 a1_3 a1_4 a1_5 a1_6 a1_7 a1_8 a2_0 a2_1 a2_2 a2_3 a2_4 a2_5 a2_6 a2_7 a2_8 W hS z0_1 z0_3 z0_5 z0_7 z1_1 z1_3 z1_5 z1_7 z2_1 z2_3 z2_5 z2_7).mono fun e W' ⟨he, hg⟩ => ?_
 subst he
 exact ⟨_, rfl, post_placeless hW' (fun _ _ _ => trodAll_cons_mk (shut_bool Tryz.underlying4 _) trodAll_mk0) (fun _ => (trodAll_cons_mk (t0 _ _) (trodAll_cons_mk (t1 _ _) (trodAll_cons_mk (t2 _ _) trodAll_mk0)))) (fun _ => rfl) hg⟩
set_option maxRecDepth 100000 in
theorem laid_met (os : Os) : laidMet Tryz.prog Rows.realOrdersRow.laid ((laidWorld os).forCall (fun _ _ => 0) ⟨#[], #[.agg #[.bool false, .string ⟨#[]⟩, .bool false, .string ⟨#[]⟩, .bool false, .string ⟨#[]⟩, .bool false, .string ⟨#[]⟩, .bool false], .agg #[.bool false, .string ⟨#[]⟩, .bool false, .string ⟨#[]⟩, .bool false, .string ⟨#[]⟩, .bool false, .string ⟨#[]⟩, .bool false], .agg #[.bool false, .string ⟨#[]⟩, .bool false, .string ⟨#[]⟩, .bool false, .string ⟨#[]⟩, .bool false, .string ⟨#[]⟩, .bool false]], []⟩).memory :=
 laidMet_of_run' 8 (by kernel_rfl) (by kernel_rfl)
set_option maxRecDepth 100000 in
theorem reads (os : Os) {H : Type} (enc : TypeId × Value → H) : ∃ places, DataW.whole enc Tryz.prog ((laidWorld os).forCall (fun _ _ => 0) ⟨#[], #[.agg #[.bool false, .string ⟨#[]⟩, .bool false, .string ⟨#[]⟩, .bool false, .string ⟨#[]⟩, .bool false, .string ⟨#[]⟩, .bool false], .agg #[.bool false, .string ⟨#[]⟩, .bool false, .string ⟨#[]⟩, .bool false, .string ⟨#[]⟩, .bool false, .string ⟨#[]⟩, .bool false], .agg #[.bool false, .string ⟨#[]⟩, .bool false, .string ⟨#[]⟩, .bool false, .string ⟨#[]⟩, .bool false, .string ⟨#[]⟩, .bool false]], []⟩).memory Tryz.f6.params.toList Rows.realOrdersSpec.vars false (#[.agg #[.bool false, .string ⟨#[]⟩, .bool false, .string ⟨#[]⟩, .bool false, .string ⟨#[]⟩, .bool false, .string ⟨#[]⟩, .bool false], .agg #[.bool false, .string ⟨#[]⟩, .bool false, .string ⟨#[]⟩, .bool false, .string ⟨#[]⟩, .bool false, .string ⟨#[]⟩, .bool false], .agg #[.bool false, .string ⟨#[]⟩, .bool false, .string ⟨#[]⟩, .bool false, .string ⟨#[]⟩, .bool false, .string ⟨#[]⟩, .bool false]] : Array Value).toList 8 = some ([.agg [.agg [.agg [.lit (.bool false), .lit (.string [])], .agg [.lit (.bool false), .lit (.string [])]], .agg [.agg [.lit (.bool false), .lit (.string [])], .agg [.lit (.bool false), .lit (.string [])]], .lit (.bool false)], .agg [.agg [.agg [.lit (.bool false), .lit (.string [])], .agg [.lit (.bool false), .lit (.string [])]], .agg [.agg [.lit (.bool false), .lit (.string [])], .agg [.lit (.bool false), .lit (.string [])]], .lit (.bool false)], .agg [.agg [.agg [.lit (.bool false), .lit (.string [])], .agg [.lit (.bool false), .lit (.string [])]], .agg [.agg [.lit (.bool false), .lit (.string [])], .agg [.lit (.bool false), .lit (.string [])]], .lit (.bool false)]], [], places) :=
 ⟨[], by kernel_rfl⟩
set_option maxRecDepth 100000 in
theorem lifted (os : Os) (started : os.Started) (H : Type) (enc : TypeId × Value → H) (F : Stop.Interp) :
    ReturnsInHanded {} Tryz.checked os 6 .any ((OpenSpec.ofChange Rows.realOrdersSpec).preRow enc Tryz.prog Tryz.f6 Rows.realOrdersRow.domain false Rows.realOrdersRow.laid) (((OpenSpec.ofChange Rows.realOrdersSpec).at F).post enc Tryz.prog Tryz.f6 false true false false) := by
 obtain ⟨places, hx⟩ := reads os enc
 refine returnsInHanded_of_row (C := Tryz.checked) (s := OpenSpec.ofChange Rows.realOrdersSpec) own started (by kernel_rfl) Tryz.func6
  (witness_row_at (enc := enc) (C := Tryz.checked) false (laidWorld os) #[.agg #[.bool false, .string ⟨#[]⟩, .bool false, .string ⟨#[]⟩, .bool false, .string ⟨#[]⟩, .bool false, .string ⟨#[]⟩, .bool false], .agg #[.bool false, .string ⟨#[]⟩, .bool false, .string ⟨#[]⟩, .bool false, .string ⟨#[]⟩, .bool false, .string ⟨#[]⟩, .bool false], .agg #[.bool false, .string ⟨#[]⟩, .bool false, .string ⟨#[]⟩, .bool false, .string ⟨#[]⟩, .bool false, .string ⟨#[]⟩, .bool false]] rfl (by kernel_rfl) (by kernel_rfl) (by kernel_rfl)
   (OpenSpec.preRow_of_cond 8 hx (by kernel_rfl) (fun k hk => by cases hk) (by kernel_rfl) (laid_met os))) ?_
 intro W base args ds gs before hval hW _ _ hR hL hS _
 exact contract H enc W base args ds gs before hval hW hR hS
set_option maxRecDepth 100000 in
set_option maxHeartbeats 20000000 in
theorem said : Rows.RealOrdersSaid :=
 OpenClaim.holds_of_cond 6 Tryz.f6 rfl rfl rfl rfl rfl rfl rfl ⟨rfl, rfl, rfl, rfl, rfl⟩ rfl rfl rfl rfl rfl (by as_aux_lemma => kernel_rfl) Tryz.func6 (by unfold joinedFacts; (repeat' with_reducible refine and2 ?_ ?_) <;> (first | (with_reducible first | exact jf1 | exact jf2 | exact jf3 | exact jf4 | exact jf6 | exact jf7) | (with_reducible rw [jf5]; kernel_rfl) | (with_reducible rw [jf8]; kernel_rfl) | (with_reducible rw [jf9]; kernel_rfl) | as_aux_lemma => kernel_rfl))
  (of_decide_eq_true (by as_aux_lemma => kernel_rfl)) (by unfold Func.isWrapper; first | (rw [if_pos (by decide +kernel)]; kernel_rfl) | (rw [if_neg (by decide +kernel)]; exact ⟨rfl, rfl⟩))
  (fun os started H enc _ F => by rw [OpenClaim.pre_eq_preRow]; exact lifted os started H enc F)
theorem plain (f : FuncId) (fn : Func) (hf : Tryz.pinned.checked.prog.funcNamed "viator/viatorlaw03.RealOrders" = some f) (hfn : Tryz.pinned.checked.prog.funcs[f]? = some fn) :
    false = Tryz.pinned.checked.prog.looks [] ∧ ∀ (j : Nat) t, fn.params[j]? = some t → Tryz.pinned.checked.prog.wantsStandIn t = false := by
 obtain rfl : f = 6 := Option.some.inj ((show Tryz.prog.funcNamed "viator/viatorlaw03.RealOrders" = some 6 by kernel_rfl).symm.trans hf) |>.symm
 obtain rfl : fn = Tryz.f6 := (Option.some.inj (Tryz.func6.symm.trans hfn)).symm
 refine ⟨jf0, fun j t ht => ?_⟩
 rw [Tryz.params6] at ht
 have hm := Array.mem_of_getElem? ht
 simp at hm
 obtain rfl := hm
 exact (show Tryz.prog.wantsStandIn 27 = false by kernel_rfl)
theorem card : Rows.RealOrdersCardSaid :=
 Claim7.holds_tied_plain_at .later [] _ _ _ _ said (fun _ h => by cases h) (by kernel_rfl) (fun _ h => by cases h) realOrders_row_tie rfl ⟨rfl, rfl⟩ (by kernel_rfl) rfl plain (by kernel_rfl)
end RealOrders
#print axioms RealOrders.card
end Go.Proofs.YthdaimoankaciaaGreatDoor
