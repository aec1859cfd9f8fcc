/- The card of EnclosureReals holds: for every input the law returns true, and its arguments read as before. No condition. -/
import Derived.Test.YtcbbcmiennjfhaaGreatDoorCardC
import Derived.Test.YtcbbcmiennjfhaaGreatDoorLA
set_option linter.unusedSimpArgs false
set_option linter.unusedVariables false
namespace Go.Proofs.YtcbbcmiennjfhaaGreatDoor
open Go.ChangeShapes Go.WideShapes Go.ChangeAt Go.RowKit
open Go
namespace EnclosureReals
set_option maxRecDepth 100000 in
set_option maxHeartbeats 1000000 in
theorem contract (H : Type) (enc : TypeId × Value → H) (W : World) (base : Nat) (args : Array Value) (ds gs : List (DataW H)) (before : List MemPlace)
    (hval : ∀ (j : Nat) t v, Tryz.f12.params[j]? = some t → args[j]? = some v → Value.okWide Tryz.prog W .any base t v)
    (hW : DataW.Whole enc Tryz.prog Tryz.f12.params.toList Rows.enclosureRealsSpec.vars false W args.toList ds gs before) :
    Calls Tryz.prog 12 args W fun e W' => ∃ v, e = .returned v ∧ Rows.enclosureRealsSpec.post enc Tryz.prog Tryz.f12 false true false false W args v W' := by
 have hW' := hW
 obtain ⟨p, q, hA0, hV, rfl, hfz, hnd⟩ := hW
 have hA : DataW.TrodAll enc Tryz.prog W 0 (fun _ => true) true Tryz.f12.params.toList args.toList ds p := hA0
 rw [Tryz.params12] at hA hval
 obtain ⟨v0, vs0, d0, ds0, p0, q0, hargs0, rfl, rfl, h0, r0⟩ := trodAll_cons hA
 obtain ⟨v1, vs1, d1, ds1, p1, q1, hargs1, rfl, rfl, h1, r1⟩ := trodAll_cons r0
 obtain ⟨hn, rfl, rfl⟩ := trodAll_nil r1
 obtain rfl : args = #[v0, v1] := by cases args; simp_all
 obtain ⟨rfl, rfl⟩ := trodVars_none hV
 obtain ⟨cs0, rfl, rfl, f0_0, t0⟩ := Go.Flat.open_flat (ls := [.i .i32, .i .u16, .i .i32, .i .u16, .b]) 6 (by kernel_rfl) (by kernel_rfl) (hval 0 89 v0 rfl rfl) h0
 obtain ⟨_, e0_0, rfl, ⟨a0_0, rfl, y0_0⟩, f0_1⟩ := Go.Flat.fits_cons f0_0
 have z0_0 := bounds_i32 y0_0
 obtain ⟨_, e0_1, rfl, ⟨a0_1, rfl, y0_1⟩, f0_2⟩ := Go.Flat.fits_cons f0_1
 have z0_1 := bounds_u16 y0_1
 obtain ⟨_, e0_2, rfl, ⟨a0_2, rfl, y0_2⟩, f0_3⟩ := Go.Flat.fits_cons f0_2
 have z0_2 := bounds_i32 y0_2
 obtain ⟨_, e0_3, rfl, ⟨a0_3, rfl, y0_3⟩, f0_4⟩ := Go.Flat.fits_cons f0_3
 have z0_3 := bounds_u16 y0_3
 obtain ⟨_, e0_4, rfl, ⟨a0_4, rfl⟩, f0_5⟩ := Go.Flat.fits_cons f0_4
 obtain rfl := Go.Flat.fits_nil f0_5
 obtain ⟨n1, rfl, rfl, rfl, w1⟩ := open_int Tryz.underlying3 (hval 1 3 v1 rfl rfl) h1
 have z1 := bounds_i64 w1
 clear hA0
 simp only [List.append_nil] at hW'
 refine (EnclosureReals_c a0_0 a0_1 a0_2 a0_3 a0_4 n1 W ⟨z0_0, z0_1, z0_2, z0_3⟩ z1.1 z1.2).mono fun e W' ⟨he, hg⟩ => ?_
 subst he
 exact ⟨_, rfl, post_placeless hW' (fun _ _ _ => trodAll_cons_mk (shut_bool Tryz.underlying4 _) trodAll_mk0) (fun _ => (trodAll_cons_mk (t0 _ _) (trodAll_cons_mk (shut_int Tryz.underlying3 w1) trodAll_mk0))) (fun _ => rfl) hg⟩
set_option maxRecDepth 100000 in
theorem laid_met (os : Os) : laidMet Tryz.prog Rows.enclosureRealsRow.laid ((laidWorld os).forCall (fun _ _ => 0) ⟨#[], #[.agg #[.int .i32 0, .int .u16 0, .int .i32 0, .int .u16 0, .bool false], .int .i64 0], []⟩).memory :=
 laidMet_of_run' 8 (by kernel_rfl) (by kernel_rfl)
set_option maxRecDepth 100000 in
theorem reads (os : Os) {H : Type} (enc : TypeId × Value → H) : ∃ places, DataW.whole enc Tryz.prog ((laidWorld os).forCall (fun _ _ => 0) ⟨#[], #[.agg #[.int .i32 0, .int .u16 0, .int .i32 0, .int .u16 0, .bool false], .int .i64 0], []⟩).memory Tryz.f12.params.toList Rows.enclosureRealsSpec.vars false (#[.agg #[.int .i32 0, .int .u16 0, .int .i32 0, .int .u16 0, .bool false], .int .i64 0] : Array Value).toList 8 = some ([.agg [.agg [.lit (.int .i32 0), .lit (.int .u16 0)], .agg [.lit (.int .i32 0), .lit (.int .u16 0)], .lit (.bool false)], .lit (.int .i64 0)], [], places) :=
 ⟨[], by kernel_rfl⟩
set_option maxRecDepth 100000 in
theorem lifted (os : Os) (started : os.Started) (H : Type) (enc : TypeId × Value → H) (F : Stop.Interp) :
    ReturnsInHanded {} Tryz.checked os 12 .any ((OpenSpec.ofChange Rows.enclosureRealsSpec).preRow enc Tryz.prog Tryz.f12 Rows.enclosureRealsRow.domain false Rows.enclosureRealsRow.laid) (((OpenSpec.ofChange Rows.enclosureRealsSpec).at F).post enc Tryz.prog Tryz.f12 false true false false) := by
 obtain ⟨places, hx⟩ := reads os enc
 refine returnsInHanded_of_row (C := Tryz.checked) (s := OpenSpec.ofChange Rows.enclosureRealsSpec) own started (by kernel_rfl) Tryz.func12
  (witness_row_at (enc := enc) (C := Tryz.checked) false (laidWorld os) #[.agg #[.int .i32 0, .int .u16 0, .int .i32 0, .int .u16 0, .bool false], .int .i64 0] rfl (by kernel_rfl) (by kernel_rfl) (by kernel_rfl)
   (OpenSpec.preRow_of_cond 8 hx (by kernel_rfl) (fun k hk => by cases hk) (by kernel_rfl) (laid_met os))) ?_
 intro W base args ds gs before hval hW _ _ _ hL _ _
 exact contract H enc W base args ds gs before hval hW
set_option maxRecDepth 100000 in
set_option maxHeartbeats 20000000 in
theorem said : Rows.EnclosureRealsSaid :=
 OpenClaim.holds_of_cond 12 Tryz.f12 rfl rfl rfl rfl rfl rfl rfl ⟨rfl, rfl, rfl, rfl, rfl⟩ rfl rfl rfl rfl rfl (by as_aux_lemma => kernel_rfl) Tryz.func12 (by unfold joinedFacts; (repeat' with_reducible refine and2 ?_ ?_) <;> (first | (with_reducible first | exact jf1 | exact jf2 | exact jf3 | exact jf4 | exact jf6 | exact jf7) | (with_reducible rw [jf5]; kernel_rfl) | (with_reducible rw [jf8]; kernel_rfl) | (with_reducible rw [jf9]; kernel_rfl) | as_aux_lemma => kernel_rfl))
  (of_decide_eq_true (by as_aux_lemma => kernel_rfl)) (by unfold Func.isWrapper; first | (rw [if_pos (by decide +kernel)]; kernel_rfl) | (rw [if_neg (by decide +kernel)]; exact ⟨rfl, rfl⟩))
  (fun os started H enc _ F => by rw [OpenClaim.pre_eq_preRow]; exact lifted os started H enc F)
theorem plain (f : FuncId) (fn : Func) (hf : Tryz.pinned.checked.prog.funcNamed "viator/viatorlaw05.EnclosureReals" = some f) (hfn : Tryz.pinned.checked.prog.funcs[f]? = some fn) :
    false = Tryz.pinned.checked.prog.looks [] ∧ ∀ (j : Nat) t, fn.params[j]? = some t → Tryz.pinned.checked.prog.wantsStandIn t = false := by
 obtain rfl : f = 12 := Option.some.inj ((show Tryz.prog.funcNamed "viator/viatorlaw05.EnclosureReals" = some 12 by kernel_rfl).symm.trans hf) |>.symm
 obtain rfl : fn = Tryz.f12 := (Option.some.inj (Tryz.func12.symm.trans hfn)).symm
 refine ⟨jf0, fun j t ht => ?_⟩
 rw [Tryz.params12] at ht
 have hm := Array.mem_of_getElem? ht
 simp at hm
 rcases hm with rfl | rfl
 ·exact (show Tryz.prog.wantsStandIn 89 = false by kernel_rfl)
 ·exact (show Tryz.prog.wantsStandIn 3 = false by kernel_rfl)
theorem card : Rows.EnclosureRealsCardSaid :=
 Claim7.holds_tied_plain_at .later [] _ _ _ _ said (fun _ h => by cases h) (by kernel_rfl) (fun _ h => by cases h) enclosureReals_row_tie rfl ⟨rfl, rfl⟩ (by kernel_rfl) rfl plain (by kernel_rfl)
end EnclosureReals
#print axioms EnclosureReals.card
end Go.Proofs.YtcbbcmiennjfhaaGreatDoor
