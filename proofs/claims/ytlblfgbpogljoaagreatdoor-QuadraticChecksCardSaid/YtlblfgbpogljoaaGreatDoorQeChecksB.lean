/- The card of QuadraticChecks holds: for every input the law returns true, and its arguments read as before. No condition. -/
import Derived.Test.YtlblfgbpogljoaaGreatDoorQeChecksA
set_option linter.unusedSimpArgs false
set_option linter.unusedVariables false
section
namespace Go.Proofs.YtlblfgbpogljoaaGreatDoor
open Go.ChangeShapes Go.WideShapes Go.ChangeAt Go.RowKit
open Go
namespace QuadraticChecks
set_option maxRecDepth 100000 in
set_option maxHeartbeats 1000000 in
theorem contract (H : Type) (enc : TypeId × Value → H) (W : World) (base : Nat) (args : Array Value) (ds gs : List (DataW H)) (before : List MemPlace)
    (hval : ∀ (j : Nat) t v, Tryz.f13.params[j]? = some t → args[j]? = some v → Value.okWide Tryz.prog W .any base t v)
    (hW : DataW.Whole enc Tryz.prog Tryz.f13.params.toList Rows.quadraticChecksSpec.vars false W args.toList ds gs before)
    (hR : (DataW.weightsEach Tryz.prog (Tryz.f13.params.toList ++ (OpenSpec.ofChange Rows.quadraticChecksSpec).bare.plain.varTypes Tryz.prog) (ds ++ gs)).all (· ≤ reachBytes) = true) (hS : W.ShapedOpen Tryz.prog) :
    Calls Tryz.prog 13 args W fun e W' => ∃ v, e = .returned v ∧ Rows.quadraticChecksSpec.post enc Tryz.prog Tryz.f13 false true false false W args v W' := by
 have hW' := hW
 obtain ⟨p, q, hA0, hV, rfl, hfz, hnd⟩ := hW
 have hA : DataW.TrodAll enc Tryz.prog W 0 (fun _ => true) true Tryz.f13.params.toList args.toList ds p := hA0
 rw [Tryz.params13] at hA hval
 obtain ⟨v0, vs0, d0, ds0, p0, q0, hargs0, rfl, rfl, h0, r0⟩ := trodAll_cons hA
 obtain ⟨hn, rfl, rfl⟩ := trodAll_nil r0
 obtain rfl : args = #[v0] := by cases args; simp_all
 obtain ⟨rfl, rfl⟩ := trodVars_none hV
 obtain ⟨cs0, rfl, rfl, f0_0, t0⟩ := Go.Flat.open_flatB (j := 0) (ls := [.b, .s, .b, .s, .b, .s, .b, .s, .b, .s, .b, .s]) 6 (by kernel_rfl) (by kernel_rfl) hR (by kernel_rfl) rfl (hval 0 67 v0 rfl rfl) h0
 obtain ⟨_, e0_0, rfl, ⟨a0_0, rfl⟩, f0_1⟩ := Go.Flat.fitsB_cons f0_0
 obtain ⟨_, e0_1, rfl, ⟨a0_1, rfl, y0_1⟩, f0_2⟩ := Go.Flat.fitsB_cons f0_1
 have z0_1 : a0_1.size ≤ 4611686018427387903 := Nat.le_trans y0_1 (by decide)
 obtain ⟨_, e0_2, rfl, ⟨a0_2, rfl⟩, f0_3⟩ := Go.Flat.fitsB_cons f0_2
 obtain ⟨_, e0_3, rfl, ⟨a0_3, rfl, y0_3⟩, f0_4⟩ := Go.Flat.fitsB_cons f0_3
 have z0_3 : a0_3.size ≤ 4611686018427387903 := Nat.le_trans y0_3 (by decide)
 obtain ⟨_, e0_4, rfl, ⟨a0_4, rfl⟩, f0_5⟩ := Go.Flat.fitsB_cons f0_4
 obtain ⟨_, e0_5, rfl, ⟨a0_5, rfl, y0_5⟩, f0_6⟩ := Go.Flat.fitsB_cons f0_5
 have z0_5 : a0_5.size ≤ 4611686018427387903 := Nat.le_trans y0_5 (by decide)
 obtain ⟨_, e0_6, rfl, ⟨a0_6, rfl⟩, f0_7⟩ := Go.Flat.fitsB_cons f0_6
 obtain ⟨_, e0_7, rfl, ⟨a0_7, rfl, y0_7⟩, f0_8⟩ := Go.Flat.fitsB_cons f0_7
 have z0_7 : a0_7.size ≤ 4611686018427387903 := Nat.le_trans y0_7 (by decide)
 obtain ⟨_, e0_8, rfl, ⟨a0_8, rfl⟩, f0_9⟩ := Go.Flat.fitsB_cons f0_8
 obtain ⟨_, e0_9, rfl, ⟨a0_9, rfl, y0_9⟩, f0_10⟩ := Go.Flat.fitsB_cons f0_9
 have z0_9 : a0_9.size ≤ 4611686018427387903 := Nat.le_trans y0_9 (by decide)
 obtain ⟨_, e0_10, rfl, ⟨a0_10, rfl⟩, f0_11⟩ := Go.Flat.fitsB_cons f0_10
 obtain ⟨_, e0_11, rfl, ⟨a0_11, rfl, y0_11⟩, f0_12⟩ := Go.Flat.fitsB_cons f0_11
 have z0_11 : a0_11.size ≤ 4611686018427387903 := Nat.le_trans y0_11 (by decide)
 obtain rfl := Go.Flat.fitsB_nil f0_12
 clear hA0
 simp only [List.append_nil] at hW'
 refine (QuadraticChecks_c a0_0 a0_1 a0_2 a0_3 a0_4 a0_5 a0_6 a0_7 a0_8 a0_9 a0_10 a0_11 W hS z0_1 z0_3 z0_5 z0_7 z0_9 z0_11).mono fun e W' ⟨he, hg⟩ => ?_
 subst he
 exact ⟨_, rfl, post_placeless hW' (fun _ _ _ => trodAll_cons_mk (shut_bool Tryz.underlying4 _) trodAll_mk0) (fun _ => (trodAll_cons_mk (t0 _ _) trodAll_mk0)) (fun _ => rfl) hg⟩
set_option maxRecDepth 100000 in
theorem laid_met (os : Os) : laidMet Tryz.prog Rows.quadraticChecksRow.laid ((laidWorld os).forCall (fun _ _ => 0) ⟨#[], #[.agg #[.bool false, .string ⟨#[]⟩, .bool false, .string ⟨#[]⟩, .bool false, .string ⟨#[]⟩, .bool false, .string ⟨#[]⟩, .bool false, .string ⟨#[]⟩, .bool false, .string ⟨#[]⟩]], []⟩).memory :=
 laidMet_of_run' 8 (by kernel_rfl) (by kernel_rfl)
set_option maxRecDepth 100000 in
theorem reads (os : Os) {H : Type} (enc : TypeId × Value → H) : ∃ places, DataW.whole enc Tryz.prog ((laidWorld os).forCall (fun _ _ => 0) ⟨#[], #[.agg #[.bool false, .string ⟨#[]⟩, .bool false, .string ⟨#[]⟩, .bool false, .string ⟨#[]⟩, .bool false, .string ⟨#[]⟩, .bool false, .string ⟨#[]⟩, .bool false, .string ⟨#[]⟩]], []⟩).memory Tryz.f13.params.toList Rows.quadraticChecksSpec.vars false (#[.agg #[.bool false, .string ⟨#[]⟩, .bool false, .string ⟨#[]⟩, .bool false, .string ⟨#[]⟩, .bool false, .string ⟨#[]⟩, .bool false, .string ⟨#[]⟩, .bool false, .string ⟨#[]⟩]] : Array Value).toList 8 = some ([.agg [.agg [.agg [.lit (.bool false), .lit (.string [])], .agg [.lit (.bool false), .lit (.string [])]], .agg [.agg [.lit (.bool false), .lit (.string [])], .agg [.lit (.bool false), .lit (.string [])]], .agg [.agg [.lit (.bool false), .lit (.string [])], .agg [.lit (.bool false), .lit (.string [])]]]], [], places) :=
 ⟨[], by kernel_rfl⟩
set_option maxRecDepth 100000 in
theorem lifted (os : Os) (started : os.Started) (H : Type) (enc : TypeId × Value → H) (F : Stop.Interp) :
    ReturnsInHanded {} Tryz.checked os 13 .any ((OpenSpec.ofChange Rows.quadraticChecksSpec).preRow enc Tryz.prog Tryz.f13 Rows.quadraticChecksRow.domain false Rows.quadraticChecksRow.laid) (((OpenSpec.ofChange Rows.quadraticChecksSpec).at F).post enc Tryz.prog Tryz.f13 false true false false) := by
 obtain ⟨places, hx⟩ := reads os enc
 refine returnsInHanded_of_row (C := Tryz.checked) (s := OpenSpec.ofChange Rows.quadraticChecksSpec) own started (by kernel_rfl) Tryz.func13
  (witness_row_at (enc := enc) (C := Tryz.checked) false (laidWorld os) #[.agg #[.bool false, .string ⟨#[]⟩, .bool false, .string ⟨#[]⟩, .bool false, .string ⟨#[]⟩, .bool false, .string ⟨#[]⟩, .bool false, .string ⟨#[]⟩, .bool false, .string ⟨#[]⟩]] rfl (by kernel_rfl) (by kernel_rfl) (by kernel_rfl)
   (OpenSpec.preRow_of_cond 8 hx (by kernel_rfl) (fun k hk => by cases hk) (by kernel_rfl) (laid_met os))) ?_
 intro W base args ds gs before hval hW _ _ hR hL hS _
 exact contract H enc W base args ds gs before hval hW hR hS
set_option maxRecDepth 100000 in
set_option maxHeartbeats 20000000 in
theorem said : Rows.QuadraticChecksSaid :=
 OpenClaim.holds_of_cond 13 Tryz.f13 rfl rfl rfl rfl rfl rfl rfl ⟨rfl, rfl, rfl, rfl, rfl⟩ rfl rfl rfl rfl rfl (by as_aux_lemma => kernel_rfl) Tryz.func13 (by unfold joinedFacts; (repeat' with_reducible refine and2 ?_ ?_) <;> (first | (with_reducible first | exact jf1 | exact jf2 | exact jf3 | exact jf4 | exact jf6 | exact jf7) | (with_reducible rw [jf5]; kernel_rfl) | (with_reducible rw [jf8]; kernel_rfl) | (with_reducible rw [jf9]; kernel_rfl) | as_aux_lemma => kernel_rfl))
  (of_decide_eq_true (by as_aux_lemma => kernel_rfl)) (by unfold Func.isWrapper; first | (rw [if_pos (by decide +kernel)]; kernel_rfl) | (rw [if_neg (by decide +kernel)]; exact ⟨rfl, rfl⟩))
  (fun os started H enc _ F => by rw [OpenClaim.pre_eq_preRow]; exact lifted os started H enc F)
theorem plain (f : FuncId) (fn : Func) (hf : Tryz.pinned.checked.prog.funcNamed "viator/viatorlaw04.QuadraticChecks" = some f) (hfn : Tryz.pinned.checked.prog.funcs[f]? = some fn) :
    false = Tryz.pinned.checked.prog.looks [] ∧ ∀ (j : Nat) t, fn.params[j]? = some t → Tryz.pinned.checked.prog.wantsStandIn t = false := by
 obtain rfl : f = 13 := Option.some.inj ((show Tryz.prog.funcNamed "viator/viatorlaw04.QuadraticChecks" = some 13 by kernel_rfl).symm.trans hf) |>.symm
 obtain rfl : fn = Tryz.f13 := (Option.some.inj (Tryz.func13.symm.trans hfn)).symm
 refine ⟨jf0, fun j t ht => ?_⟩
 rw [Tryz.params13] at ht
 have hm := Array.mem_of_getElem? ht
 simp at hm
 obtain rfl := hm
 exact (show Tryz.prog.wantsStandIn 67 = false by kernel_rfl)
theorem card : Rows.QuadraticChecksCardSaid :=
 Claim7.holds_tied_plain_at .later [] _ _ _ _ said (fun _ h => by cases h) (by kernel_rfl) (fun _ h => by cases h) quadraticChecks_row_tie rfl ⟨rfl, rfl⟩ (by kernel_rfl) rfl plain (by kernel_rfl)
end QuadraticChecks
#print axioms QuadraticChecks.card
end Go.Proofs.YtlblfgbpogljoaaGreatDoor

end
