/- SymbolExcess returns true whatever the input, and its arguments read as before: the card. -/
import Derived.Test.YtejmmglffmckeaaGreatDoorArgs
namespace Go.Proofs.YtejmmglffmckeaaGreatDoor.symbolExcess
open Go.ChangeShapes Go.WideShapes Go.ChangeAt Go.RowKit Go.Joins Go.Deep
open Q

theorem laid {W : World} (h : laidMetH Tryz.prog Rows.symbolExcessRow.laid W) (hS : W.ShapedOpen Tryz.prog) : Offs W := offs_of (laidMet.tail (laidMet.tail (laidMet.tail h))) hS
theorem readable : ∀ t ∈ Tryz.f6.params.toList, Tryz.prog.readableRec t = true ∧ t < Tryz.prog.types.size := by
  have h : (Tryz.f6.params.toList.all fun t => Tryz.prog.readableRec t && Nat.blt t Tryz.prog.types.size) = true := by kernel_rfl
  intro t ht
  have := List.all_eq_true.1 h t ht
  simp only [Bool.and_eq_true] at this
  exact ⟨this.1, Nat.le_of_ble_eq_true this.2⟩

theorem walk (W : World) (hO : Offs W) (p q : Int) (a a' : Option Addr) (n c n' c' : Nat) (made : Bool) (l : List Con) (hn : n ≤ maxLen) (hn' : n' ≤ maxLen) (h0 : 0 ≤ q) (h1 : q ≤ 255) (hl : Lst W (.slice a n c) l) (hv : Prts W (.slice a' n' c') n') :
    Calls Tryz.prog 6 #[.agg #[.int .i64 p, .slice a n c], .agg #[.int .u8 q, .slice a' n' c'], .bool made] W fun e w' => e = .returned (.bool true) ∧ Below W.heap.size W w' := by
  unfold maxLen at hn hn'
  by_cases h : 20 < n ∨ 20 < n'
  · exact law_long p q a a' n c n' c' made W hO (by omega) (by omega) h
  · exact law_short p q a a' n c n' c' made l W hO h0 h1 hl (by omega) hv (by omega)

set_option maxRecDepth 100000 in
theorem contract (H : Type) (enc : TypeId × Value → H) (W : World) (base : Nat) (args : Array Value) (ds gs : List (DataW H)) (before : List MemPlace)
    (hval : ∀ (j : Nat) t v, Tryz.f6.params[j]? = some t → args[j]? = some v → Value.okWide Tryz.prog W .any base t v)
    (hW : DataW.Whole enc Tryz.prog Tryz.f6.params.toList Rows.symbolExcessSpec.vars false W args.toList ds gs before) (hO : Offs W) :
    Calls Tryz.prog 6 args W fun e W' => ∃ v, e = .returned v ∧ Rows.symbolExcessSpec.post enc Tryz.prog Tryz.f6 false true false false W args v W' := by
  have hW' := hW
  obtain ⟨p, q, hA0, hV, rfl, hfz, hnd⟩ := hW
  have hA : DataW.TrodAll enc Tryz.prog W 0 (fun _ => true) true Tryz.f6.params.toList args.toList ds p := hA0
  rw [Tryz.params6] at hA hval
  obtain ⟨v0, vs0, d0, ds0, p0, q0, hargs0, rfl, rfl, h0, r0⟩ := trodAll_cons hA
  obtain ⟨v1, vs1, d1, ds1, p1, q1, hargs1, rfl, rfl, h1, r1⟩ := trodAll_cons r0
  obtain ⟨v2, vs2, d2, ds2, p2, q2, hargs2, rfl, rfl, h2, r2⟩ := trodAll_cons r1
  obtain ⟨rfl, rfl, rfl⟩ := trodAll_nil r2
  obtain rfl : args = #[v0, v1, v2] := by cases args; simp_all
  obtain ⟨P0, a0, n0, c0, l0, rfl, _, hn0, hl0, _⟩ := open_local localTys (hval 0 24 v0 rfl rfl) h0
  obtain ⟨P1, a1, n1, c1, rfl, g1, g1', hn1, hp1⟩ := open_symbol symbolTys (hval 1 27 v1 rfl rfl) h1
  obtain ⟨b2, rfl, rfl, rfl⟩ := open_bool Tryz.underlying4 (hval 2 4 v2 rfl rfl) h2
  refine (walk W hO P0 P1 a0 a1 n0 c0 n1 c1 b2 l0 hn0 hn1 g1 g1' hl0 hp1).mono fun e W' ⟨he, hb⟩ => ?_
  exact ⟨_, he, law_post laidOut readable rfl Tryz.underlying4 rfl hW' rfl hb⟩

def wArgs : Array Value := #[.agg #[.int .i64 0, .slice none 0 0], .agg #[.int .u8 0, .slice none 0 0], .bool false]
noncomputable def laidWorld (os : Os) : World :=
  layAt 0 Rows.laid_quadform_prime_offsets (layAt 1 Rows.laid_internal_strconv_uint64pow10 (layAt 7 Rows.laid_math_bits_deBruijn32tab (layAt 8 Rows.laid_math_bits_deBruijn64tab (World.holding Tryz.prog os ⟨#[], #[], []⟩))))
theorem laid_met (os : Os) : laidMet Tryz.prog Rows.symbolExcessRow.laid ((laidWorld os).forCall (fun _ _ => 0) ⟨#[], wArgs, []⟩).memory :=
  laidMet_of_run' 8 (by kernel_rfl) (by kernel_rfl)
theorem reads (os : Os) {H : Type} (enc : TypeId × Value → H) : ∃ ds places, DataW.whole enc Tryz.prog ((laidWorld os).forCall (fun _ _ => 0) ⟨#[], wArgs, []⟩).memory Tryz.f6.params.toList Rows.symbolExcessSpec.vars false wArgs.toList 8 = some (ds, [], places) :=
  ⟨[.agg [.lit (.int .i64 0), .nil], .agg [.lit (.int .u8 0), .nil], .lit (.bool false)], [], by kernel_rfl⟩

set_option maxRecDepth 100000 in
theorem lifted (os : Os) (started : os.Started) (H : Type) (enc : TypeId × Value → H) (F : Stop.Interp) :
    ReturnsInHanded {} Tryz.checked os 6 .any ((OpenSpec.ofChange Rows.symbolExcessSpec).preRow enc Tryz.prog Tryz.f6 Rows.symbolExcessRow.domain false Rows.symbolExcessRow.laid) (((OpenSpec.ofChange Rows.symbolExcessSpec).at F).post enc Tryz.prog Tryz.f6 false true false false) := by
  refine returnsInHanded_of_row (C := Tryz.checked) (s := OpenSpec.ofChange Rows.symbolExcessSpec) own started (by kernel_rfl) Tryz.func6
    (witness_row_at (enc := enc) (C := Tryz.checked) false (laidWorld os) wArgs rfl (by kernel_rfl) (by kernel_rfl) (by kernel_rfl)
      (OpenSpec.preRow_of_cond 8 (reads os enc).choose_spec.choose_spec (by kernel_rfl) (fun k hk => by cases hk) (by kernel_rfl) (laid_met os))) ?_
  intro W base args ds gs before hval hW _ _ _ hL hS _
  exact contract H enc W base args ds gs before hval hW (laid hL hS)

theorem named : Tryz.prog.funcNamed Rows.symbolExcessRow.func = some 6 := by kernel_rfl
theorem facts : joinedFacts Tryz.prog 6 Tryz.f6 (OpenSpec.ofChange Rows.symbolExcessSpec).bare Rows.symbolExcessRow = true := by kernel_rfl
theorem inst : Tryz.f6.isInstance Tryz.prog Rows.symbolExcessRow.origin Rows.symbolExcessRow.targs := of_decide_eq_true (by kernel_rfl)
theorem wrap : Tryz.f6.isWrapper Tryz.prog Rows.symbolExcessRow.wrapper Rows.symbolExcessRow.mainSum := by
  unfold Func.isWrapper; first | (rw [if_pos (by decide +kernel)]; kernel_rfl) | (rw [if_neg (by decide +kernel)]; exact ⟨rfl, rfl⟩)
theorem said : Rows.SymbolExcessSaid :=
  OpenClaim.holds_of_cond 6 Tryz.f6 rfl rfl rfl rfl rfl rfl rfl ⟨rfl, rfl, rfl, rfl, rfl⟩ rfl rfl rfl rfl rfl named Tryz.func6 facts inst wrap
    (fun os started H enc _ F => by rw [OpenClaim.pre_eq_preRow]; exact lifted os started H enc F)
end Go.Proofs.YtejmmglffmckeaaGreatDoor.symbolExcess
