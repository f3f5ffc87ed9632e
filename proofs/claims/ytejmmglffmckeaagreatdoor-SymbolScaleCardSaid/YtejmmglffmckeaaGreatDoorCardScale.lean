/- SymbolScale returns true whatever the input, and its arguments read as before: the row's statement. -/
import Derived.Test.YtejmmglffmckeaaGreatDoorArgs
import Derived.Test.YtejmmglffmckeaaGreatDoorS7
namespace Go.Proofs.YtejmmglffmckeaaGreatDoor.symbolScale
open Go.ChangeShapes Go.WideShapes Go.ChangeAt Go.RowKit Go.Joins Go.Deep
open Q

theorem laid {W : World} (h : laidMetH Tryz.prog Rows.symbolScaleRow.laid W) (hS : W.ShapedOpen Tryz.prog) : Offs W := offs_of (laidMet.tail (laidMet.tail (laidMet.tail h))) hS
theorem readable : ∀ t ∈ Tryz.f7.params.toList, Tryz.prog.readableRec t = true ∧ t < Tryz.prog.types.size := by
  have h : (Tryz.f7.params.toList.all fun t => Tryz.prog.readableRec t && Nat.blt t Tryz.prog.types.size) = true := by kernel_rfl
  intro t ht
  have := List.all_eq_true.1 h t ht
  simp only [Bool.and_eq_true] at this
  exact ⟨this.1, Nat.le_of_ble_eq_true this.2⟩

set_option maxRecDepth 100000 in
theorem contract (H : Type) (enc : TypeId × Value → H) (W : World) (base : Nat) (args : Array Value) (ds gs : List (DataW H)) (before : List MemPlace)
    (hval : ∀ (j : Nat) t v, Tryz.f7.params[j]? = some t → args[j]? = some v → Value.okWide Tryz.prog W .any base t v)
    (hW : DataW.Whole enc Tryz.prog Tryz.f7.params.toList Rows.symbolScaleSpec.vars false W args.toList ds gs before) (hO : Offs W) :
    Calls Tryz.prog 7 args W fun e W' => ∃ v, e = .returned v ∧ Rows.symbolScaleSpec.post enc Tryz.prog Tryz.f7 false true false false W args v W' := by
  have hW' := hW
  obtain ⟨p, q, hA0, hV, rfl, hfz, hnd⟩ := hW
  have hA : DataW.TrodAll enc Tryz.prog W 0 (fun _ => true) true Tryz.f7.params.toList args.toList ds p := hA0
  rw [Tryz.params7] at hA hval
  obtain ⟨v0, vs0, d0, ds0, p0, q0, hargs0, rfl, rfl, h0, r0⟩ := trodAll_cons hA
  obtain ⟨v1, vs1, d1, ds1, p1, q1, hargs1, rfl, rfl, h1, r1⟩ := trodAll_cons r0
  obtain ⟨v2, vs2, d2, ds2, p2, q2, hargs2, rfl, rfl, h2, r2⟩ := trodAll_cons r1
  obtain ⟨v3, vs3, d3, ds3, p3, q3, hargs3, rfl, rfl, h3, r3⟩ := trodAll_cons r2
  obtain ⟨v4, vs4, d4, ds4, p4, q4, hargs4, rfl, rfl, h4, r4⟩ := trodAll_cons r3
  obtain ⟨rfl, rfl, rfl⟩ := trodAll_nil r4
  obtain rfl : args = #[v0, v1, v2, v3, v4] := by cases args; simp_all
  obtain ⟨P0, a0, n0, c0, l0, rfl, hP0, hn0, hl0, hf0⟩ := open_local localTys (hval 0 24 v0 rfl rfl) h0
  obtain ⟨P1, a1, n1, c1, rfl, hP1, hP1', hn1, hp1⟩ := open_symbol symbolTys (hval 1 27 v1 rfl rfl) h1
  obtain ⟨z2, rfl, rfl, rfl, hz2⟩ := open_int Tryz.underlying3 (hval 2 3 v2 rfl rfl) h2
  obtain ⟨b3, rfl, rfl, rfl⟩ := open_bool Tryz.underlying4 (hval 3 4 v3 rfl rfl) h3
  obtain ⟨b4, rfl, rfl, rfl⟩ := open_bool Tryz.underlying4 (hval 4 4 v4 rfl rfl) h4
  refine (scale_law P0 P1 z2 a0 a1 n0 c0 n1 c1 b3 b4 l0 W hO hP1 hP1' hl0 hn0 hp1 hn1).mono fun e W' ⟨he, hb⟩ => ?_
  exact ⟨_, he, law_post laidOut readable rfl Tryz.underlying4 rfl hW' rfl hb⟩

def wArgs : Array Value := #[.agg #[.int .i64 0, .slice none 0 0], .agg #[.int .u8 0, .slice none 0 0], .int .i64 0, .bool false, .bool false]
noncomputable def laidWorld (os : Os) : World := (layAt 0 Rows.laid_quadform_prime_offsets (layAt 1 Rows.laid_internal_strconv_uint64pow10 (layAt 8 Rows.laid_math_bits_deBruijn64tab (layAt 7 Rows.laid_math_bits_deBruijn32tab (World.holding Tryz.prog os ⟨#[], #[], []⟩)))))
theorem laid_met (os : Os) : laidMet Tryz.prog Rows.symbolScaleRow.laid ((laidWorld os).forCall (fun _ _ => 0) ⟨#[], wArgs, []⟩).memory :=
  laidMet_of_run' 8 (by kernel_rfl) (by kernel_rfl)
theorem reads (os : Os) {H : Type} (enc : TypeId × Value → H) : ∃ ds places, DataW.whole enc Tryz.prog ((laidWorld os).forCall (fun _ _ => 0) ⟨#[], wArgs, []⟩).memory Tryz.f7.params.toList Rows.symbolScaleSpec.vars false wArgs.toList 8 = some (ds, [], places) :=
  ⟨[.agg [.lit (.int .i64 0), .nil], .agg [.lit (.int .u8 0), .nil], .lit (.int .i64 0), .lit (.bool false), .lit (.bool false)], [], by kernel_rfl⟩

set_option maxRecDepth 100000 in
theorem lifted (os : Os) (started : os.Started) (H : Type) (enc : TypeId × Value → H) (F : Stop.Interp) :
    ReturnsInHanded {} Tryz.checked os 7 .any ((OpenSpec.ofChange Rows.symbolScaleSpec).preRow enc Tryz.prog Tryz.f7 Rows.symbolScaleRow.domain false Rows.symbolScaleRow.laid) (((OpenSpec.ofChange Rows.symbolScaleSpec).at F).post enc Tryz.prog Tryz.f7 false true false false) := by
  refine returnsInHanded_of_row (C := Tryz.checked) (s := OpenSpec.ofChange Rows.symbolScaleSpec) own started (by kernel_rfl) Tryz.func7
    (witness_row_at (enc := enc) (C := Tryz.checked) false (laidWorld os) wArgs rfl (by kernel_rfl) (by kernel_rfl) (by kernel_rfl)
      (OpenSpec.preRow_of_cond 8 (reads os enc).choose_spec.choose_spec (by kernel_rfl) (fun k hk => by cases hk) (by kernel_rfl) (laid_met os))) ?_
  intro W base args ds gs before hval hW _ _ _ hL hS _
  exact contract H enc W base args ds gs before hval hW (laid hL hS)

theorem named : Tryz.prog.funcNamed Rows.symbolScaleRow.func = some 7 := by kernel_rfl
theorem facts : joinedFacts Tryz.prog 7 Tryz.f7 (OpenSpec.ofChange Rows.symbolScaleSpec).bare Rows.symbolScaleRow = true := by kernel_rfl
theorem inst : Tryz.f7.isInstance Tryz.prog Rows.symbolScaleRow.origin Rows.symbolScaleRow.targs := of_decide_eq_true (by kernel_rfl)
theorem wrap : Tryz.f7.isWrapper Tryz.prog Rows.symbolScaleRow.wrapper Rows.symbolScaleRow.mainSum := by
  unfold Func.isWrapper; first | (rw [if_pos (by decide +kernel)]; kernel_rfl) | (rw [if_neg (by decide +kernel)]; exact ⟨rfl, rfl⟩)
theorem said : Rows.SymbolScaleSaid :=
  OpenClaim.holds_of_cond 7 Tryz.f7 rfl rfl rfl rfl rfl rfl rfl ⟨rfl, rfl, rfl, rfl, rfl⟩ rfl rfl rfl rfl rfl named Tryz.func7 facts inst wrap
    (fun os started H enc _ F => by rw [OpenClaim.pre_eq_preRow]; exact lifted os started H enc F)
end Go.Proofs.YtejmmglffmckeaaGreatDoor.symbolScale
