/- The card of QuadraticProducts holds: for every input the law returns true, and its arguments read as before. No condition. -/
import Derived.Test.YtlblfgbpogljoaaGreatDoorQeProductsA
set_option linter.unusedSimpArgs false
set_option linter.unusedVariables false
section
namespace Go.Proofs.YtlblfgbpogljoaaGreatDoor
open Go.ChangeShapes Go.WideShapes Go.ChangeAt Go.RowKit
open Go
namespace QuadraticProducts
set_option maxRecDepth 100000 in
set_option maxHeartbeats 1000000 in
theorem contract (H : Type) (enc : TypeId × Value → H) (W : World) (base : Nat) (args : Array Value) (ds gs : List (DataW H)) (before : List MemPlace)
    (hval : ∀ (j : Nat) t v, Tryz.f15.params[j]? = some t → args[j]? = some v → Value.okWide Tryz.prog W .any base t v)
    (hW : DataW.Whole enc Tryz.prog Tryz.f15.params.toList Rows.quadraticProductsSpec.vars false W args.toList ds gs before)
    (hR : (DataW.weightsEach Tryz.prog (Tryz.f15.params.toList ++ (OpenSpec.ofChange Rows.quadraticProductsSpec).bare.plain.varTypes Tryz.prog) (ds ++ gs)).all (· ≤ reachBytes) = true) (hS : W.ShapedOpen Tryz.prog) :
    Calls Tryz.prog 15 args W fun e W' => ∃ v, e = .returned v ∧ Rows.quadraticProductsSpec.post enc Tryz.prog Tryz.f15 false true false false W args v W' := by
 have hW' := hW
 obtain ⟨p, q, hA0, hV, rfl, hfz, hnd⟩ := hW
 have hA : DataW.TrodAll enc Tryz.prog W 0 (fun _ => true) true Tryz.f15.params.toList args.toList ds p := hA0
 rw [Tryz.params15] at hA hval
 obtain ⟨v0, vs0, d0, ds0, p0, q0, hargs0, rfl, rfl, h0, r0⟩ := trodAll_cons hA
 obtain ⟨v1, vs1, d1, ds1, p1, q1, hargs1, rfl, rfl, h1, r1⟩ := trodAll_cons r0
 obtain ⟨v2, vs2, d2, ds2, p2, q2, hargs2, rfl, rfl, h2, r2⟩ := trodAll_cons r1
 obtain ⟨hn, rfl, rfl⟩ := trodAll_nil r2
 obtain rfl : args = #[v0, v1, v2] := by cases args; simp_all
 obtain ⟨rfl, rfl⟩ := trodVars_none hV
 obtain ⟨cs0, rfl, rfl, f0_0, t0⟩ := Go.Flat.open_flat (ls := [.i .i16, .i .u8, .i .i16, .i .u8, .i .i16, .i .u8, .i .i16, .i .u8, .i .i16, .i .u8, .i .i16, .i .u8]) 6 (by kernel_rfl) (by kernel_rfl) (hval 0 106 v0 rfl rfl) h0
 obtain ⟨_, e0_0, rfl, ⟨a0_0, rfl, y0_0⟩, f0_1⟩ := Go.Flat.fits_cons f0_0
 have z0_0 := bounds_i16 y0_0
 obtain ⟨_, e0_1, rfl, ⟨a0_1, rfl, y0_1⟩, f0_2⟩ := Go.Flat.fits_cons f0_1
 have z0_1 := bounds_u8 y0_1
 obtain ⟨_, e0_2, rfl, ⟨a0_2, rfl, y0_2⟩, f0_3⟩ := Go.Flat.fits_cons f0_2
 have z0_2 := bounds_i16 y0_2
 obtain ⟨_, e0_3, rfl, ⟨a0_3, rfl, y0_3⟩, f0_4⟩ := Go.Flat.fits_cons f0_3
 have z0_3 := bounds_u8 y0_3
 obtain ⟨_, e0_4, rfl, ⟨a0_4, rfl, y0_4⟩, f0_5⟩ := Go.Flat.fits_cons f0_4
 have z0_4 := bounds_i16 y0_4
 obtain ⟨_, e0_5, rfl, ⟨a0_5, rfl, y0_5⟩, f0_6⟩ := Go.Flat.fits_cons f0_5
 have z0_5 := bounds_u8 y0_5
 obtain ⟨_, e0_6, rfl, ⟨a0_6, rfl, y0_6⟩, f0_7⟩ := Go.Flat.fits_cons f0_6
 have z0_6 := bounds_i16 y0_6
 obtain ⟨_, e0_7, rfl, ⟨a0_7, rfl, y0_7⟩, f0_8⟩ := Go.Flat.fits_cons f0_7
 have z0_7 := bounds_u8 y0_7
 obtain ⟨_, e0_8, rfl, ⟨a0_8, rfl, y0_8⟩, f0_9⟩ := Go.Flat.fits_cons f0_8
 have z0_8 := bounds_i16 y0_8
 obtain ⟨_, e0_9, rfl, ⟨a0_9, rfl, y0_9⟩, f0_10⟩ := Go.Flat.fits_cons f0_9
 have z0_9 := bounds_u8 y0_9
 obtain ⟨_, e0_10, rfl, ⟨a0_10, rfl, y0_10⟩, f0_11⟩ := Go.Flat.fits_cons f0_10
 have z0_10 := bounds_i16 y0_10
 obtain ⟨_, e0_11, rfl, ⟨a0_11, rfl, y0_11⟩, f0_12⟩ := Go.Flat.fits_cons f0_11
 have z0_11 := bounds_u8 y0_11
 obtain rfl := Go.Flat.fits_nil f0_12
 obtain ⟨cs1, rfl, rfl, f1_0, t1⟩ := Go.Flat.open_flat (ls := [.i .u8, .i .u8]) 6 (by kernel_rfl) (by kernel_rfl) (hval 1 125 v1 rfl rfl) h1
 obtain ⟨_, e1_0, rfl, ⟨a1_0, rfl, y1_0⟩, f1_1⟩ := Go.Flat.fits_cons f1_0
 have z1_0 := bounds_u8 y1_0
 obtain ⟨_, e1_1, rfl, ⟨a1_1, rfl, y1_1⟩, f1_2⟩ := Go.Flat.fits_cons f1_1
 have z1_1 := bounds_u8 y1_1
 obtain rfl := Go.Flat.fits_nil f1_2
 obtain ⟨cs2, rfl, rfl, f2_0, t2⟩ := Go.Flat.open_flat (ls := [.i .i16, .i .u8]) 6 (by kernel_rfl) (by kernel_rfl) (hval 2 61 v2 rfl rfl) h2
 obtain ⟨_, e2_0, rfl, ⟨a2_0, rfl, y2_0⟩, f2_1⟩ := Go.Flat.fits_cons f2_0
 have z2_0 := bounds_i16 y2_0
 obtain ⟨_, e2_1, rfl, ⟨a2_1, rfl, y2_1⟩, f2_2⟩ := Go.Flat.fits_cons f2_1
 have z2_1 := bounds_u8 y2_1
 obtain rfl := Go.Flat.fits_nil f2_2
 clear hA0
 simp only [List.append_nil] at hW'
 refine (QuadraticProducts_c a0_0 a0_1 a0_2 a0_3 a0_4 a0_5 a0_6 a0_7 a0_8 a0_9 a0_10 a0_11 a1_0 a1_1 a2_0 a2_1 W hS ⟨z0_0, z0_1⟩ ⟨z0_2, z0_3⟩ ⟨z0_4, z0_5⟩ ⟨z0_6, z0_7⟩ ⟨z0_8, z0_9⟩ ⟨z0_10, z0_11⟩ z1_0 z1_1 ⟨z2_0, z2_1⟩).mono fun e W' ⟨he, hg⟩ => ?_
 subst he
 exact ⟨_, rfl, post_placeless hW' (fun _ _ _ => trodAll_cons_mk (shut_bool Tryz.underlying4 _) trodAll_mk0) (fun _ => (trodAll_cons_mk (t0 _ _) (trodAll_cons_mk (t1 _ _) (trodAll_cons_mk (t2 _ _) trodAll_mk0)))) (fun _ => rfl) hg⟩
set_option maxRecDepth 100000 in
theorem laid_met (os : Os) : laidMet Tryz.prog Rows.quadraticProductsRow.laid ((laidWorld os).forCall (fun _ _ => 0) ⟨#[], #[.agg #[.int .i16 0, .int .u8 0, .int .i16 0, .int .u8 0, .int .i16 0, .int .u8 0, .int .i16 0, .int .u8 0, .int .i16 0, .int .u8 0, .int .i16 0, .int .u8 0], .agg #[.int .u8 0, .int .u8 0], .agg #[.int .i16 0, .int .u8 0]], []⟩).memory :=
 laidMet_of_run' 8 (by kernel_rfl) (by kernel_rfl)
set_option maxRecDepth 100000 in
theorem reads (os : Os) {H : Type} (enc : TypeId × Value → H) : ∃ places, DataW.whole enc Tryz.prog ((laidWorld os).forCall (fun _ _ => 0) ⟨#[], #[.agg #[.int .i16 0, .int .u8 0, .int .i16 0, .int .u8 0, .int .i16 0, .int .u8 0, .int .i16 0, .int .u8 0, .int .i16 0, .int .u8 0, .int .i16 0, .int .u8 0], .agg #[.int .u8 0, .int .u8 0], .agg #[.int .i16 0, .int .u8 0]], []⟩).memory Tryz.f15.params.toList Rows.quadraticProductsSpec.vars false (#[.agg #[.int .i16 0, .int .u8 0, .int .i16 0, .int .u8 0, .int .i16 0, .int .u8 0, .int .i16 0, .int .u8 0, .int .i16 0, .int .u8 0, .int .i16 0, .int .u8 0], .agg #[.int .u8 0, .int .u8 0], .agg #[.int .i16 0, .int .u8 0]] : Array Value).toList 8 = some ([.agg [.agg [.agg [.lit (.int .i16 0), .lit (.int .u8 0)], .agg [.lit (.int .i16 0), .lit (.int .u8 0)], .agg [.lit (.int .i16 0), .lit (.int .u8 0)]], .agg [.agg [.lit (.int .i16 0), .lit (.int .u8 0)], .agg [.lit (.int .i16 0), .lit (.int .u8 0)], .agg [.lit (.int .i16 0), .lit (.int .u8 0)]]], .agg [.lit (.int .u8 0), .lit (.int .u8 0)], .agg [.lit (.int .i16 0), .lit (.int .u8 0)]], [], places) :=
 ⟨[], by kernel_rfl⟩
set_option maxRecDepth 100000 in
theorem lifted (os : Os) (started : os.Started) (H : Type) (enc : TypeId × Value → H) (F : Stop.Interp) :
    ReturnsInHanded {} Tryz.checked os 15 .any ((OpenSpec.ofChange Rows.quadraticProductsSpec).preRow enc Tryz.prog Tryz.f15 Rows.quadraticProductsRow.domain false Rows.quadraticProductsRow.laid) (((OpenSpec.ofChange Rows.quadraticProductsSpec).at F).post enc Tryz.prog Tryz.f15 false true false false) := by
 obtain ⟨places, hx⟩ := reads os enc
 refine returnsInHanded_of_row (C := Tryz.checked) (s := OpenSpec.ofChange Rows.quadraticProductsSpec) own started (by kernel_rfl) Tryz.func15
  (witness_row_at (enc := enc) (C := Tryz.checked) false (laidWorld os) #[.agg #[.int .i16 0, .int .u8 0, .int .i16 0, .int .u8 0, .int .i16 0, .int .u8 0, .int .i16 0, .int .u8 0, .int .i16 0, .int .u8 0, .int .i16 0, .int .u8 0], .agg #[.int .u8 0, .int .u8 0], .agg #[.int .i16 0, .int .u8 0]] rfl (by kernel_rfl) (by kernel_rfl) (by kernel_rfl)
   (OpenSpec.preRow_of_cond 8 hx (by kernel_rfl) (fun k hk => by cases hk) (by kernel_rfl) (laid_met os))) ?_
 intro W base args ds gs before hval hW _ _ hR hL hS _
 exact contract H enc W base args ds gs before hval hW hR hS
set_option maxRecDepth 100000 in
set_option maxHeartbeats 20000000 in
theorem said : Rows.QuadraticProductsSaid :=
 OpenClaim.holds_of_cond 15 Tryz.f15 rfl rfl rfl rfl rfl rfl rfl ⟨rfl, rfl, rfl, rfl, rfl⟩ rfl rfl rfl rfl rfl (by as_aux_lemma => kernel_rfl) Tryz.func15 (by unfold joinedFacts; (repeat' with_reducible refine and2 ?_ ?_) <;> (first | (with_reducible first | exact jf1 | exact jf2 | exact jf3 | exact jf4 | exact jf6 | exact jf7) | (with_reducible rw [jf5]; kernel_rfl) | (with_reducible rw [jf8]; kernel_rfl) | (with_reducible rw [jf9]; kernel_rfl) | as_aux_lemma => kernel_rfl))
  (of_decide_eq_true (by as_aux_lemma => kernel_rfl)) (by unfold Func.isWrapper; first | (rw [if_pos (by decide +kernel)]; kernel_rfl) | (rw [if_neg (by decide +kernel)]; exact ⟨rfl, rfl⟩))
  (fun os started H enc _ F => by rw [OpenClaim.pre_eq_preRow]; exact lifted os started H enc F)
theorem plain (f : FuncId) (fn : Func) (hf : Tryz.pinned.checked.prog.funcNamed "viator/viatorlaw04.QuadraticProducts" = some f) (hfn : Tryz.pinned.checked.prog.funcs[f]? = some fn) :
    false = Tryz.pinned.checked.prog.looks [] ∧ ∀ (j : Nat) t, fn.params[j]? = some t → Tryz.pinned.checked.prog.wantsStandIn t = false := by
 obtain rfl : f = 15 := Option.some.inj ((show Tryz.prog.funcNamed "viator/viatorlaw04.QuadraticProducts" = some 15 by kernel_rfl).symm.trans hf) |>.symm
 obtain rfl : fn = Tryz.f15 := (Option.some.inj (Tryz.func15.symm.trans hfn)).symm
 refine ⟨jf0, fun j t ht => ?_⟩
 rw [Tryz.params15] at ht
 have hm := Array.mem_of_getElem? ht
 simp at hm
 rcases hm with rfl | rfl | rfl
 ·exact (show Tryz.prog.wantsStandIn 106 = false by kernel_rfl)
 ·exact (show Tryz.prog.wantsStandIn 125 = false by kernel_rfl)
 ·exact (show Tryz.prog.wantsStandIn 61 = false by kernel_rfl)
theorem card : Rows.QuadraticProductsCardSaid :=
 Claim7.holds_tied_plain_at .later [] _ _ _ _ said (fun _ h => by cases h) (by kernel_rfl) (fun _ h => by cases h) quadraticProducts_row_tie rfl ⟨rfl, rfl⟩ (by kernel_rfl) rfl plain (by kernel_rfl)
end QuadraticProducts
#print axioms QuadraticProducts.card
end Go.Proofs.YtlblfgbpogljoaaGreatDoor

end
