/- A part of the proof of TiedSymbolValid: YS, YE, YX, Y4, YZ, CardSymbolValid, TiedSymbolValid. -/
import Derived.Test.YtbjfdfjmclggkaaGreatDoorPkV5
import Derived.Laws.StructEq
import Derived.Test.YtbjfdfjmclggkaaGreatDoorPkV4
import Derived.Test.YtbjfdfjmclggkaaGreatDoorPkV3
set_option linter.unusedSimpArgs false
set_option linter.unusedVariables false
/- quadformref24.SameList, quadformref26.Same of equal lists. -/
namespace Go.Proofs.YtbjfdfjmclggkaaGreatDoor.Q
open Go.RowKit

theorem con_eql (c : Con) (w : World) : (binOp .neq 50 c.agg c.agg).run Tryz.prog w = .ok (.bool false) w := by
  have u3 := Tryz.underlying3
  have a3 := Tryz.isAgg3
  have z3 := Tryz.sizeOf3
  have u4 := Tryz.underlying4
  have a4 := Tryz.isAgg4
  have z4 := Tryz.sizeOf4
  have hS : Tryz.prog.underlying 50 = some (.struct (Tryz.prog.fieldsOf 50)) := by kernel_rfl
  have hp : Tryz.prog.stoodInHeld 50 = false := by kernel_rfl
  simp only [Con.agg]
  rw [run_neq_struct, show (10000 : Nat) = 9999 + 1 from rfl, run_equalIn_agg w 9999 50 _ _ hS hp]
  simp only [Program.fieldsOf, Tryz.underlying50]
  go_simp

set_option maxHeartbeats 4000000 in
theorem sameList_cons (l : List Con) (n b o cap b' o' cap' : Nat) (w : World) (hn : Hid (l.length = n)) (hn0 : 0 < n) (hn1 : n ≤ 1000) (hb : b < w.heap.size) (hb' : b' < w.heap.size)
    (hc : Hid (∀ i c, l[i]? = some c → ConAt w b (o + i * 5) c)) (hc' : Hid (∀ i c, l[i]? = some c → ConAt w b' (o' + i * 5) c)) :
    Calls Tryz.prog 32 #[.slice (some ⟨b, o, none⟩) n cap, .slice (some ⟨b', o', none⟩) n cap'] w fun e w' => e = .returned (.bool true) ∧ Below w.heap.size w w' := by
  go_enter Tryz.func32, Tryz.ntmps32
  go_wp2
  go_loopw [13] (fun i wr => ∃ (k : Nat), k ≤ n ∧ i = .int .i64 k ∧ Below w.heap.size w wr) (fun i _ => (n - (intOf i).toNat))
  case atStart => exact ⟨0, by omega, rfl, Below.refl _ _⟩
  case round =>
    obtain ⟨k, hk, rfl, hbe⟩ := hrel
    by_cases hlt : k < n
    · obtain ⟨c, hkc⟩ : ∃ c, l[k]? = some c := ⟨l[k]'(by rw [hn.out]; exact hlt), List.getElem?_eq_getElem _⟩
      obtain ⟨g0, g1, g2, g3, g4⟩ := (hc.out k c hkc).below hbe hb
      obtain ⟨f0, f1, f2, f3, f4⟩ := (hc'.out k c hkc).below hbe hb'
      have hix : (0 : Int) ≤ (k : Int) := by omega
      have hix' : (k : Int) < (n : Int) := by omega
      clear hkc
      have hneq := con_eql c
      unfold Con.agg at hneq
      go_wp2
      go_hide hQ
      go_quiet (fail)
      subst hQ
      go_wp2
      go_roundw
      case rel => exact ⟨k + 1, by omega, by go_num, below_drewN hbe _⟩
      case measure => simp [intOf]; omega
    · go_wp2
      go_ret
      exact ⟨rfl, hbe⟩
theorem sameList_nil (a a' : Option Addr) (cap cap' : Nat) (w : World) :
    Calls Tryz.prog 32 #[.slice a 0 cap, .slice a' 0 cap'] w fun e w' => e = .returned (.bool true) ∧ Below w.heap.size w w' := by
  go_enter Tryz.func32, Tryz.ntmps32
  go_wp2
  go_loopw [13] (fun i wr => i = .int .i64 0 ∧ wr = w) (fun _ _ => 0)
  case atStart => exact ⟨rfl, rfl⟩
  case round =>
    obtain ⟨rfl, rfl⟩ := hrel
    go_wp2
    go_ret
    exact ⟨rfl, Below.refl _ _⟩

theorem sameList_calls (l : List Con) (v v' : Value) (w : World) (h : Lst w v l) (h' : Lst w v' l) (hn : l.length ≤ 1000) :
    Calls Tryz.prog 32 #[v, v'] w fun e w' => e = .returned (.bool true) ∧ Below w.heap.size w w' := by
  rcases h with ⟨rfl, a, c, rfl⟩ | ⟨hne, b, o, cap, rfl, hb, hcp, hc⟩
  · rcases h' with ⟨_, a', c', rfl⟩ | ⟨hne, _⟩
    · exact sameList_nil a a' c c' w
    · exact absurd rfl hne
  · rcases h' with ⟨rfl, _⟩ | ⟨_, b', o', cap', rfl, hb', hcp', hc'⟩
    · exact absurd rfl hne
    · have hpos : 0 < l.length := by cases l; exact absurd rfl hne; simp
      exact sameList_cons l l.length b o cap b' o' cap' w rfl hpos hn hb hb' hc hc'

set_option maxRecDepth 100000 in
set_option maxHeartbeats 1000000 in
theorem same_calls (p : Int) (l : List Con) (a a' : Option Addr) (n n' c c' : Nat) (w : World) (h : Hid (Lst w (.slice a n c) l)) (h' : Hid (Lst w (.slice a' n' c') l)) (hn : Hid (l.length ≤ 1000)) :
    Calls Tryz.prog 15 #[.agg #[.int .i64 p, .slice a n c], .agg #[.int .i64 p, .slice a' n' c']] w fun e w' => e = .returned (.bool true) ∧ Below w.heap.size w w' := by
  have hcall := Lib.hid (fun (W : World) (hW : Below w.heap.size w W) => sameList_calls l (.slice a n c) (.slice a' n' c') W (h.out.below hW (Nat.le_refl _)) (h'.out.below hW (Nat.le_refl _)) hn.out)
  clear h h'
  go_enter Tryz.func15, Tryz.ntmps15
  go_wp2_with (go_at_call 32; refine (hcall.out _ ?_).mono ?_; (exact ((Below.refl _ _).alloc (Nat.le_refl _) _).alloc (by simp) _); rintro e w1 ⟨rfl, hb1⟩)
  go_ret
  exact ⟨rfl, (((Below.refl _ _).alloc (Nat.le_refl _) _).alloc (by simp) _).trans (hb1.mono (by simp; omega))⟩
end Go.Proofs.YtbjfdfjmclggkaaGreatDoor.Q

/- The old contracts as pure calls. -/
set_option linter.unusedSimpArgs false
set_option linter.unusedVariables false
namespace Go.Proofs.YtbjfdfjmclggkaaGreatDoor.S
open Go.QfSy Go.RowKit

def toQ (c : Con) : Q.Con := ⟨c.exp, c.dim, c.sign, c.odd, c.oddity⟩

theorem cell_of {F : Fz} {w : World} (hF : Vld F w) {B o : Nat} {v : Value} (h : FzAt F B o v) : w.cell? ⟨B, o, none⟩ = some v ∧ B < w.heap.size := by
  obtain ⟨cs, el, fr, h1, h2⟩ := h
  have h3 := hF _ _ h1
  refine ⟨?_, (Array.getElem?_eq_some_iff.1 h3).1⟩
  simp [World.cell?, h3, h2]

theorem rs5 {F : Fz} {c : Con} {Vs : List Value} (h : RsRel F c.rvs Vs) : Vs = [.int .i64 c.exp, .int .i64 c.dim, .int .i64 c.sign, .bool c.odd, .int .i64 c.oddity] := by
  unfold Con.rvs at h
  cases h with | cons h0 h => cases h with | cons h1 h => cases h with | cons h2 h => cases h with | cons h3 h => cases h with | cons h4 h =>
  cases h; cases h0; cases h1; cases h2; cases h3; cases h4
  rfl

theorem lst_of {F : Fz} {w : World} (hF : Vld F w) {L : List Con} {V : Value} (h : RRel F (roC L) V) : Q.Lst w V (L.map toQ) ∧ ∃ a n c, V = .slice a n c := by
  unfold roC at h
  cases h with
  | sl0 sz row a c hn =>
    have : L = [] := List.eq_nil_of_length_eq_zero hn
    subst this
    exact ⟨.inl ⟨rfl, a, c, rfl⟩, _, _, _, rfl⟩
  | @sl _ _ B o c _ cs hc hl hf h =>
    refine ⟨?_, _, _, _, rfl⟩
    cases L with
    | nil => exact .inl ⟨rfl, _, _, rfl⟩
    | cons c0 l =>
      have key : ∀ i, i < (c0 :: l).length → ∀ j v, ([.int .i64 ((c0 :: l).getD i Con.zero).exp, .int .i64 ((c0 :: l).getD i Con.zero).dim, .int .i64 ((c0 :: l).getD i Con.zero).sign, .bool ((c0 :: l).getD i Con.zero).odd, .int .i64 ((c0 :: l).getD i Con.zero).oddity] : List Value)[j]? = some v → w.cell? ⟨B, o + i * 5 + j, none⟩ = some v ∧ B < w.heap.size := by
        intro i hi j v hv
        have := rs5 (h i hi)
        exact cell_of hF (hf i j v hi (by rw [this]; exact hv))
      refine .inr ⟨by simp, B, o, c, by simp, (key 0 (by simp) 0 _ rfl).2, by simpa using hc, ?_⟩
      intro i q hq
      rw [List.getElem?_map] at hq
      cases hi : (c0 :: l)[i]? with
      | none => rw [hi] at hq; cases hq
      | some x =>
        rw [hi] at hq
        cases hq
        have hlt := (List.getElem?_eq_some_iff.1 hi).1
        have hx : (c0 :: l).getD i Con.zero = x := by rw [List.getD_eq_getElem?_getD, hi]; rfl
        have k := key i hlt
        rw [hx] at k
        exact ⟨(k 0 _ rfl).1, (k 1 _ rfl).1, (k 2 _ rfl).1, (k 3 _ rfl).1, (k 4 _ rfl).1⟩

/-- A result without slices makes a pure call. -/
theorem flat_pure {tabs : List Tb} {f : Nat} {A : List RV} {R : RV} {V : Value} (hR : ∀ F, RRel F R V) (hfn : ∃ fn, Tryz.prog.funcs[f]? = some fn ∧ fn.body.isSome = true)
    (h : ∀ (w : World) (F : Fz) (Args : List Value), TabW tabs w → Vld F w → RsRel F A Args → Calls Tryz.prog f Args.toArray w fun e w' => e = .returned V ∧ Below w.heap.size w w') : PureC Tryz.prog tabs f A R := by
  refine ⟨hfn, ?_⟩
  intro w F Args ht hF hr
  refine (h w F Args ht hF hr).mono ?_
  rintro e w' ⟨rfl, hb⟩
  exact ⟨V, F, rfl, fun _ _ h => h, hF.below hb, fun _ _ h => .inl h, hR F, hb⟩

def offT : Tb := ⟨0, .i64, [7, 11, 13, 17, 19, 23, 29, 31], 114⟩
theorem offs_of {w : World} (h : TabW [offT] w) : Q.Offs w := h offT (by simp)

theorem valid_pure (p : Int) (L : List Con) (hn : L.length ≤ 1000) : PureC Tryz.prog [offT] 10 [.agg [.int .i64 p, roC L]] (.bool (Q.vS p (L.map toQ))) := by
  refine flat_pure (fun _ => .bool _) ⟨_, Tryz.func10, rfl⟩ ?_
  intro w F Args ht hF hr
  cases hr with | cons h0 hr => cases hr; cases h0 with | agg h0 => cases h0 with | cons h1 h0 => cases h1; cases h0 with | cons h2 h0 =>
  cases h0
  exact Q.valid_calls p _ _ w (offs_of ht) (lst_of hF h2).1 (by simpa using hn)

theorem rvalid_pure (p : Int) (L : List Con) (hn : L.length ≤ 1000) : PureC Tryz.prog [] 11 [.agg [.int .i64 p, roC L]] (.bool (Q.vS p (L.map toQ))) := by
  refine flat_pure (fun _ => .bool _) ⟨_, Tryz.func11, rfl⟩ ?_
  intro w F Args ht hF hr
  cases hr with | cons h0 hr => cases hr; cases h0 with | agg h0 => cases h0 with | cons h1 h0 => cases h1; cases h0 with | cons h2 h0 =>
  cases h0
  exact Q.rvalid_calls p _ _ w (lst_of hF h2).1 (by simpa using hn)

theorem same_pure (p : Int) (L : List Con) (hn : L.length ≤ 1000) : PureC Tryz.prog [] 15 [.agg [.int .i64 p, roC L], .agg [.int .i64 p, roC L]] (.bool true) := by
  refine flat_pure (fun _ => .bool _) ⟨_, Tryz.func15, rfl⟩ ?_
  intro w F Args ht hF hr
  cases hr with | cons h0 hr => cases hr with | cons k0 hr => cases hr; cases h0 with | agg h0 => cases h0 with | cons h1 h0 => cases h1; cases h0 with | cons h2 h0 => cases h0; cases k0 with | agg k0 => cases k0 with | cons k1 k0 => cases k1; cases k0 with | cons k2 k0 =>
  cases k0
  obtain ⟨l1, a, n, c, rfl⟩ := lst_of hF h2
  obtain ⟨l2, a', n', c', rfl⟩ := lst_of hF k2
  exact Q.same_calls p _ a a' n n' c c' w (Lib.hid l1) (Lib.hid l2) (Lib.hid (by simpa using hn))

theorem oddPrime_pure (k : Int) (h0 : 0 ≤ k) (h1 : k ≤ 255) : PureC Tryz.prog [] 26 [.int .u8 k] (.int .i64 (Q.oddPr k)) := by
  refine flat_pure (fun _ => .int _ _) ⟨_, Tryz.func26, rfl⟩ ?_
  intro w F Args ht hF hr
  cases hr with | cons k0 hr =>
  cases hr; cases k0
  exact Q.oddPrime_calls k w h0 h1

end Go.Proofs.YtbjfdfjmclggkaaGreatDoor.S

/- (quadformscene.Symbol).Any and quadformscene.Bent. -/
set_option linter.unusedSimpArgs false
set_option linter.unusedVariables false
namespace Go.Proofs.YtbjfdfjmclggkaaGreatDoor.S
open Go.QfSy Go.RowKit

noncomputable def entsA : List OEnt := [
  ⟨27, [], fun A => match A with
    | [.agg [.int .u8 pr, .sl n 5 row], .int .i64 most, .bool two] => some (roC (listV most two (prtR n row)), [(∀ i, i < n → row i = (Prt.ofR (row i)).rvs) ∧ (∀ p ∈ prtR n row, p.ok) ∧ 1 ≤ most ∧ most ≤ 100 ∧ n ≤ 1000])
    | _ => none⟩,
  ⟨26, [], fun A => match A with
    | [.int .u8 k] => some (.int .i64 (Q.oddPr k), [0 ≤ k ∧ k ≤ 255])
    | _ => none⟩,
  ⟨21, [], fun A => match A with
    | [.agg [.int .i64 p, .sl n 5 row]] => some (.tup [.agg [.int .i64 2, roC (fuseM (consR n row))], .bool true], [(∀ i, i < n → row i = (Con.ofR (row i)).rvs) ∧ p = 2 ∧ val2M 2 (consR n row) = true])
    | _ => none⟩,
  ⟨22, [], fun A => match A with
    | [.agg [.int .i64 p, .sl n 5 row]] => some (.tup [.agg [.int .i64 2, roC (canM (consR n row))], .bool true], [(∀ i, i < n → row i = (Con.ofR (row i)).rvs) ∧ p = 2 ∧ val2M 2 (consR n row) = true])
    | _ => none⟩]
theorem entsA_ok : ∀ e ∈ entsA, EntOk Tryz.prog e := by
  intro e he
  simp only [entsA, List.mem_cons, List.not_mem_nil, or_false] at he
  rcases he with rfl | rfl | rfl | rfl
  all_goals
    intro A R ms h hm
    simp only at h
    split at h
    all_goals first | (cases h; done) | cases h
  · obtain ⟨h1, h2, h3, h4, h5⟩ := all_one hm
    exact list_rows h1 h2 h3 h4 h5
  · obtain ⟨h1, h2⟩ := all_one hm
    exact oddPrime_pure _ h1 h2
  · obtain ⟨h1, h2, h3⟩ := all_one hm
    subst h2
    obtain ⟨a, b, c, d⟩ := val2_ok h3
    exact PureC.imp (fuse_yes _ b a h3 c) (.cons (.agg (.cons .same (.cons (.con h1) .nil))) .nil)
  · obtain ⟨h1, h2, h3⟩ := all_one hm
    subst h2
    obtain ⟨a, b, c, d⟩ := val2_ok h3
    exact PureC.imp (can_yes _ b a h3 c) (.cons (.agg (.cons .same (.cons (.con h1) .nil))) .nil)

noncomputable def anyP (pr : Int) : Int := bif decide (pr % 8 < 3) then Q.oddPr pr else 2
noncomputable def anyL (pr : Int) (X : List Prt) (most : Int) : List Con := bif decide (pr % 8 < 3) then listV most false X else bif decide (pr % 8 < 5) then listV most true X else bif pr % 8 == 5 then fuseM (listV most true X) else canM (listV most true X)

theorem anyP_1 {pr : Int} (h : pr % 8 < 3) : anyP pr = Q.oddPr pr := by unfold anyP; rw [decide_eq_true h]; rfl
theorem anyP_2 {pr : Int} (h : ¬ pr % 8 < 3) : anyP pr = 2 := by unfold anyP; rw [decide_eq_false h]; rfl
theorem anyL_1 {pr : Int} {X : List Prt} {most : Int} (h : pr % 8 < 3) : anyL pr X most = listV most false X := by unfold anyL; rw [decide_eq_true h]; rfl
theorem anyL_2 {pr : Int} {X : List Prt} {most : Int} (h : ¬ pr % 8 < 3) (h2 : pr % 8 < 5) : anyL pr X most = listV most true X := by unfold anyL; rw [decide_eq_false h, decide_eq_true h2]; rfl
theorem anyL_3 {pr : Int} {X : List Prt} {most : Int} (h : pr % 8 = 5) : anyL pr X most = fuseM (listV most true X) := by unfold anyL; rw [decide_eq_false (by omega), decide_eq_false (by omega), h]; rfl
theorem anyL_4 {pr : Int} {X : List Prt} {most : Int} (h : ¬ pr % 8 < 5) (h2 : ¬ pr % 8 = 5) : anyL pr X most = canM (listV most true X) := by unfold anyL; rw [decide_eq_false (by omega), decide_eq_false h, beq_eq_false_iff_ne.2 h2]; rfl

set_option maxRecDepth 100000 in
theorem any_pure (pr : Int) (X : List Prt) (most : Int) (hp : U8 pr) (hX : ∀ p ∈ X, p.ok) (hn : X.length ≤ 900) (hm1 : 1 ≤ most) (hm2 : most ≤ 8) : PureC Tryz.prog [] 9 [.agg [.int .u8 pr, roP X], .int .i64 most] (.agg [.int .i64 (anyP pr), roC (anyL pr X most)]) := by
  obtain ⟨p1, p2⟩ := hp; have et : pr.tmod 8 = pr % 8 := Int.tmod_eq_emod_of_nonneg p1; have hv := val2_listV hm1 hm2 hX; have hl := listV_len (most := most) (two := true) (X := X)
  rcases Bool.eq_false_or_eq_true (pr.tmod (8 : Int) == (0 : Int)) with d1 | d1
  · -- true
    exact pure_run evOk (callF_ok evOk (orcOf_ok entsA_ok) 8) Tryz.func9 rfl none_ann rfl rfl evNg (tp := [true, true]) (ms := [Q.oddPr pr = anyP pr, (listV most false (prtR X.length fun i => (X.getD i Prt.zero).rvs)).length = (anyL pr X most).length ∧ (fun i => ((listV most false (prtR X.length fun i => (X.getD i Prt.zero).rvs)).getD i Con.zero).rvs) = fun i => ((anyL pr X most).getD i Con.zero).rvs, (∀ (i : Nat), i < X.length → (fun i => (X.getD i Prt.zero).rvs) i = (Prt.ofR ((fun i => (X.getD i Prt.zero).rvs) i)).rvs) ∧ (∀ (p : Prt), (p ∈ prtR X.length fun i => (X.getD i Prt.zero).rvs) → p.ok) ∧ (1 : Int) ≤ most ∧ most ≤ (100 : Int) ∧ X.length ≤ (1000 : Nat), pr = pr, X.length = X.length ∧ (fun i => (X.getD i Prt.zero).rvs) = fun i => (X.getD i Prt.zero).rvs, (0 : Int) ≤ pr ∧ pr ≤ (255 : Int), Dec (pr.tmod (8 : Int) == (0 : Int)) true, Dec (pr.tmod (8 : Int) == (0 : Int)) true, (8 : Int) ≠ (0 : Int)]) (by kernel_rfl) (by refine ⟨?_, ?_, ?_, ?_, ?_, ?_, d1, d1, (?_ : (8 : Int) ≠ (0 : Int))⟩ <;> (first | (with_reducible rfl) | (with_reducible exact ⟨rfl, rfl⟩) | exact ⟨p1, p2⟩ | (exact (by decide : (8 : Int) ≠ 0)) | exact ⟨fun _ _ => rfl, by rw [prtR_ro]; exact hX, hm1, by omega, by omega⟩ | exact ⟨fun _ _ => rfl, rfl, by rw [consR_ro, prtR_ro]; exact hv⟩ | (simp only [et, prtR_ro, consR_ro, beq_iff_eq, beq_eq_false_iff_ne, ne_eq] at * <;> first | (rw [anyP_1 (by omega)]; done) | (rw [anyP_2 (by omega)]; done) | (rw [anyL_1 (by omega)]; exact ⟨rfl, rfl⟩) | (rw [anyL_2 (by omega) (by omega)]; exact ⟨rfl, rfl⟩) | (rw [anyL_3 (by omega)]; exact ⟨rfl, rfl⟩) | (rw [anyL_4 (by omega) (by omega)]; exact ⟨rfl, rfl⟩))))
  · -- false
    rcases Bool.eq_false_or_eq_true (pr.tmod (8 : Int) == (1 : Int)) with d2 | d2
    · -- true
      exact pure_run evOk (callF_ok evOk (orcOf_ok entsA_ok) 8) Tryz.func9 rfl none_ann rfl rfl evNg (tp := [false, true, true]) (ms := [Q.oddPr pr = anyP pr, (listV most false (prtR X.length fun i => (X.getD i Prt.zero).rvs)).length = (anyL pr X most).length ∧ (fun i => ((listV most false (prtR X.length fun i => (X.getD i Prt.zero).rvs)).getD i Con.zero).rvs) = fun i => ((anyL pr X most).getD i Con.zero).rvs, (∀ (i : Nat), i < X.length → (fun i => (X.getD i Prt.zero).rvs) i = (Prt.ofR ((fun i => (X.getD i Prt.zero).rvs) i)).rvs) ∧ (∀ (p : Prt), (p ∈ prtR X.length fun i => (X.getD i Prt.zero).rvs) → p.ok) ∧ (1 : Int) ≤ most ∧ most ≤ (100 : Int) ∧ X.length ≤ (1000 : Nat), pr = pr, X.length = X.length ∧ (fun i => (X.getD i Prt.zero).rvs) = fun i => (X.getD i Prt.zero).rvs, (0 : Int) ≤ pr ∧ pr ≤ (255 : Int), Dec (pr.tmod (8 : Int) == (1 : Int)) true, Dec (pr.tmod (8 : Int) == (1 : Int)) true, Dec (pr.tmod (8 : Int) == (0 : Int)) false, (8 : Int) ≠ (0 : Int)]) (by kernel_rfl) (by refine ⟨?_, ?_, ?_, ?_, ?_, ?_, d2, d2, d1, (?_ : (8 : Int) ≠ (0 : Int))⟩ <;> (first | (with_reducible rfl) | (with_reducible exact ⟨rfl, rfl⟩) | exact ⟨p1, p2⟩ | (exact (by decide : (8 : Int) ≠ 0)) | exact ⟨fun _ _ => rfl, by rw [prtR_ro]; exact hX, hm1, by omega, by omega⟩ | exact ⟨fun _ _ => rfl, rfl, by rw [consR_ro, prtR_ro]; exact hv⟩ | (simp only [et, prtR_ro, consR_ro, beq_iff_eq, beq_eq_false_iff_ne, ne_eq] at * <;> first | (rw [anyP_1 (by omega)]; done) | (rw [anyP_2 (by omega)]; done) | (rw [anyL_1 (by omega)]; exact ⟨rfl, rfl⟩) | (rw [anyL_2 (by omega) (by omega)]; exact ⟨rfl, rfl⟩) | (rw [anyL_3 (by omega)]; exact ⟨rfl, rfl⟩) | (rw [anyL_4 (by omega) (by omega)]; exact ⟨rfl, rfl⟩))))
    · -- false
      rcases Bool.eq_false_or_eq_true (pr.tmod (8 : Int) == (2 : Int)) with d3 | d3
      · -- true
        exact pure_run evOk (callF_ok evOk (orcOf_ok entsA_ok) 8) Tryz.func9 rfl none_ann rfl rfl evNg (tp := [false, false, true]) (ms := [Q.oddPr pr = anyP pr, (listV most false (prtR X.length fun i => (X.getD i Prt.zero).rvs)).length = (anyL pr X most).length ∧ (fun i => ((listV most false (prtR X.length fun i => (X.getD i Prt.zero).rvs)).getD i Con.zero).rvs) = fun i => ((anyL pr X most).getD i Con.zero).rvs, (∀ (i : Nat), i < X.length → (fun i => (X.getD i Prt.zero).rvs) i = (Prt.ofR ((fun i => (X.getD i Prt.zero).rvs) i)).rvs) ∧ (∀ (p : Prt), (p ∈ prtR X.length fun i => (X.getD i Prt.zero).rvs) → p.ok) ∧ (1 : Int) ≤ most ∧ most ≤ (100 : Int) ∧ X.length ≤ (1000 : Nat), pr = pr, X.length = X.length ∧ (fun i => (X.getD i Prt.zero).rvs) = fun i => (X.getD i Prt.zero).rvs, (0 : Int) ≤ pr ∧ pr ≤ (255 : Int), Dec (pr.tmod (8 : Int) == (2 : Int)) true, Dec (pr.tmod (8 : Int) == (1 : Int)) false, Dec (pr.tmod (8 : Int) == (0 : Int)) false, (8 : Int) ≠ (0 : Int)]) (by kernel_rfl) (by refine ⟨?_, ?_, ?_, ?_, ?_, ?_, d3, d2, d1, (?_ : (8 : Int) ≠ (0 : Int))⟩ <;> (first | (with_reducible rfl) | (with_reducible exact ⟨rfl, rfl⟩) | exact ⟨p1, p2⟩ | (exact (by decide : (8 : Int) ≠ 0)) | exact ⟨fun _ _ => rfl, by rw [prtR_ro]; exact hX, hm1, by omega, by omega⟩ | exact ⟨fun _ _ => rfl, rfl, by rw [consR_ro, prtR_ro]; exact hv⟩ | (simp only [et, prtR_ro, consR_ro, beq_iff_eq, beq_eq_false_iff_ne, ne_eq] at * <;> first | (rw [anyP_1 (by omega)]; done) | (rw [anyP_2 (by omega)]; done) | (rw [anyL_1 (by omega)]; exact ⟨rfl, rfl⟩) | (rw [anyL_2 (by omega) (by omega)]; exact ⟨rfl, rfl⟩) | (rw [anyL_3 (by omega)]; exact ⟨rfl, rfl⟩) | (rw [anyL_4 (by omega) (by omega)]; exact ⟨rfl, rfl⟩))))
      · -- false
        rcases Bool.eq_false_or_eq_true (pr.tmod (8 : Int) == (3 : Int)) with d4 | d4
        · -- true
          exact pure_run evOk (callF_ok evOk (orcOf_ok entsA_ok) 8) Tryz.func9 rfl none_ann rfl rfl evNg (tp := [false, false, false, true, true]) (ms := [(2 : Int) = anyP pr, (listV most true (prtR X.length fun i => (X.getD i Prt.zero).rvs)).length = (anyL pr X most).length ∧ (fun i => ((listV most true (prtR X.length fun i => (X.getD i Prt.zero).rvs)).getD i Con.zero).rvs) = fun i => ((anyL pr X most).getD i Con.zero).rvs, (∀ (i : Nat), i < X.length → (fun i => (X.getD i Prt.zero).rvs) i = (Prt.ofR ((fun i => (X.getD i Prt.zero).rvs) i)).rvs) ∧ (∀ (p : Prt), (p ∈ prtR X.length fun i => (X.getD i Prt.zero).rvs) → p.ok) ∧ (1 : Int) ≤ most ∧ most ≤ (100 : Int) ∧ X.length ≤ (1000 : Nat), Dec (pr.tmod (8 : Int) == (3 : Int)) true, Dec (pr.tmod (8 : Int) == (3 : Int)) true, Dec (pr.tmod (8 : Int) == (2 : Int)) false, Dec (pr.tmod (8 : Int) == (1 : Int)) false, Dec (pr.tmod (8 : Int) == (0 : Int)) false, (8 : Int) ≠ (0 : Int)]) (by kernel_rfl) (by refine ⟨?_, ?_, ?_, d4, d4, d3, d2, d1, (?_ : (8 : Int) ≠ (0 : Int))⟩ <;> (first | (with_reducible rfl) | (with_reducible exact ⟨rfl, rfl⟩) | exact ⟨p1, p2⟩ | (exact (by decide : (8 : Int) ≠ 0)) | exact ⟨fun _ _ => rfl, by rw [prtR_ro]; exact hX, hm1, by omega, by omega⟩ | exact ⟨fun _ _ => rfl, rfl, by rw [consR_ro, prtR_ro]; exact hv⟩ | (simp only [et, prtR_ro, consR_ro, beq_iff_eq, beq_eq_false_iff_ne, ne_eq] at * <;> first | (rw [anyP_1 (by omega)]; done) | (rw [anyP_2 (by omega)]; done) | (rw [anyL_1 (by omega)]; exact ⟨rfl, rfl⟩) | (rw [anyL_2 (by omega) (by omega)]; exact ⟨rfl, rfl⟩) | (rw [anyL_3 (by omega)]; exact ⟨rfl, rfl⟩) | (rw [anyL_4 (by omega) (by omega)]; exact ⟨rfl, rfl⟩))))
        · -- false
          rcases Bool.eq_false_or_eq_true (pr.tmod (8 : Int) == (4 : Int)) with d5 | d5
          · -- true
            exact pure_run evOk (callF_ok evOk (orcOf_ok entsA_ok) 8) Tryz.func9 rfl none_ann rfl rfl evNg (tp := [false, false, false, false, true]) (ms := [(2 : Int) = anyP pr, (listV most true (prtR X.length fun i => (X.getD i Prt.zero).rvs)).length = (anyL pr X most).length ∧ (fun i => ((listV most true (prtR X.length fun i => (X.getD i Prt.zero).rvs)).getD i Con.zero).rvs) = fun i => ((anyL pr X most).getD i Con.zero).rvs, (∀ (i : Nat), i < X.length → (fun i => (X.getD i Prt.zero).rvs) i = (Prt.ofR ((fun i => (X.getD i Prt.zero).rvs) i)).rvs) ∧ (∀ (p : Prt), (p ∈ prtR X.length fun i => (X.getD i Prt.zero).rvs) → p.ok) ∧ (1 : Int) ≤ most ∧ most ≤ (100 : Int) ∧ X.length ≤ (1000 : Nat), Dec (pr.tmod (8 : Int) == (4 : Int)) true, Dec (pr.tmod (8 : Int) == (3 : Int)) false, Dec (pr.tmod (8 : Int) == (2 : Int)) false, Dec (pr.tmod (8 : Int) == (1 : Int)) false, Dec (pr.tmod (8 : Int) == (0 : Int)) false, (8 : Int) ≠ (0 : Int)]) (by kernel_rfl) (by refine ⟨?_, ?_, ?_, d5, d4, d3, d2, d1, (?_ : (8 : Int) ≠ (0 : Int))⟩ <;> (first | (with_reducible rfl) | (with_reducible exact ⟨rfl, rfl⟩) | exact ⟨p1, p2⟩ | (exact (by decide : (8 : Int) ≠ 0)) | exact ⟨fun _ _ => rfl, by rw [prtR_ro]; exact hX, hm1, by omega, by omega⟩ | exact ⟨fun _ _ => rfl, rfl, by rw [consR_ro, prtR_ro]; exact hv⟩ | (simp only [et, prtR_ro, consR_ro, beq_iff_eq, beq_eq_false_iff_ne, ne_eq] at * <;> first | (rw [anyP_1 (by omega)]; done) | (rw [anyP_2 (by omega)]; done) | (rw [anyL_1 (by omega)]; exact ⟨rfl, rfl⟩) | (rw [anyL_2 (by omega) (by omega)]; exact ⟨rfl, rfl⟩) | (rw [anyL_3 (by omega)]; exact ⟨rfl, rfl⟩) | (rw [anyL_4 (by omega) (by omega)]; exact ⟨rfl, rfl⟩))))
          · -- false
            rcases Bool.eq_false_or_eq_true (pr.tmod (8 : Int) == (5 : Int)) with d6 | d6
            · -- true
              exact pure_run evOk (callF_ok evOk (orcOf_ok entsA_ok) 8) Tryz.func9 rfl none_ann rfl rfl evNg (tp := [false, false, false, false, false, true]) (ms := [(2 : Int) = anyP pr, (fuseM (consR (listV most true (prtR X.length fun i => (X.getD i Prt.zero).rvs)).length fun i => ((listV most true (prtR X.length fun i => (X.getD i Prt.zero).rvs)).getD i Con.zero).rvs)).length = (anyL pr X most).length ∧ (fun i => ((fuseM (consR (listV most true (prtR X.length fun i => (X.getD i Prt.zero).rvs)).length fun i => ((listV most true (prtR X.length fun i => (X.getD i Prt.zero).rvs)).getD i Con.zero).rvs)).getD i Con.zero).rvs) = fun i => ((anyL pr X most).getD i Con.zero).rvs, (∀ (i : Nat), i < (listV most true (prtR X.length fun i => (X.getD i Prt.zero).rvs)).length → (fun i => ((listV most true (prtR X.length fun i => (X.getD i Prt.zero).rvs)).getD i Con.zero).rvs) i = (Con.ofR ((fun i => ((listV most true (prtR X.length fun i => (X.getD i Prt.zero).rvs)).getD i Con.zero).rvs) i)).rvs) ∧ (2 : Int) = (2 : Int) ∧ val2M (2 : Int) (consR (listV most true (prtR X.length fun i => (X.getD i Prt.zero).rvs)).length fun i => ((listV most true (prtR X.length fun i => (X.getD i Prt.zero).rvs)).getD i Con.zero).rvs) = true, (∀ (i : Nat), i < X.length → (fun i => (X.getD i Prt.zero).rvs) i = (Prt.ofR ((fun i => (X.getD i Prt.zero).rvs) i)).rvs) ∧ (∀ (p : Prt), (p ∈ prtR X.length fun i => (X.getD i Prt.zero).rvs) → p.ok) ∧ (1 : Int) ≤ most ∧ most ≤ (100 : Int) ∧ X.length ≤ (1000 : Nat), Dec (pr.tmod (8 : Int) == (5 : Int)) true, Dec (pr.tmod (8 : Int) == (4 : Int)) false, Dec (pr.tmod (8 : Int) == (3 : Int)) false, Dec (pr.tmod (8 : Int) == (2 : Int)) false, Dec (pr.tmod (8 : Int) == (1 : Int)) false, Dec (pr.tmod (8 : Int) == (0 : Int)) false, (8 : Int) ≠ (0 : Int)]) (by kernel_rfl) (by refine ⟨?_, ?_, ?_, ?_, d6, d5, d4, d3, d2, d1, (?_ : (8 : Int) ≠ (0 : Int))⟩ <;> (first | (with_reducible rfl) | (with_reducible exact ⟨rfl, rfl⟩) | exact ⟨p1, p2⟩ | (exact (by decide : (8 : Int) ≠ 0)) | exact ⟨fun _ _ => rfl, by rw [prtR_ro]; exact hX, hm1, by omega, by omega⟩ | exact ⟨fun _ _ => rfl, rfl, by rw [consR_ro, prtR_ro]; exact hv⟩ | (simp only [et, prtR_ro, consR_ro, beq_iff_eq, beq_eq_false_iff_ne, ne_eq] at * <;> first | (rw [anyP_1 (by omega)]; done) | (rw [anyP_2 (by omega)]; done) | (rw [anyL_1 (by omega)]; exact ⟨rfl, rfl⟩) | (rw [anyL_2 (by omega) (by omega)]; exact ⟨rfl, rfl⟩) | (rw [anyL_3 (by omega)]; exact ⟨rfl, rfl⟩) | (rw [anyL_4 (by omega) (by omega)]; exact ⟨rfl, rfl⟩))))
            · -- false
              exact pure_run evOk (callF_ok evOk (orcOf_ok entsA_ok) 8) Tryz.func9 rfl none_ann rfl rfl evNg (tp := [false, false, false, false, false, false]) (ms := [(2 : Int) = anyP pr, (canM (consR (listV most true (prtR X.length fun i => (X.getD i Prt.zero).rvs)).length fun i => ((listV most true (prtR X.length fun i => (X.getD i Prt.zero).rvs)).getD i Con.zero).rvs)).length = (anyL pr X most).length ∧ (fun i => ((canM (consR (listV most true (prtR X.length fun i => (X.getD i Prt.zero).rvs)).length fun i => ((listV most true (prtR X.length fun i => (X.getD i Prt.zero).rvs)).getD i Con.zero).rvs)).getD i Con.zero).rvs) = fun i => ((anyL pr X most).getD i Con.zero).rvs, (∀ (i : Nat), i < (listV most true (prtR X.length fun i => (X.getD i Prt.zero).rvs)).length → (fun i => ((listV most true (prtR X.length fun i => (X.getD i Prt.zero).rvs)).getD i Con.zero).rvs) i = (Con.ofR ((fun i => ((listV most true (prtR X.length fun i => (X.getD i Prt.zero).rvs)).getD i Con.zero).rvs) i)).rvs) ∧ (2 : Int) = (2 : Int) ∧ val2M (2 : Int) (consR (listV most true (prtR X.length fun i => (X.getD i Prt.zero).rvs)).length fun i => ((listV most true (prtR X.length fun i => (X.getD i Prt.zero).rvs)).getD i Con.zero).rvs) = true, (∀ (i : Nat), i < X.length → (fun i => (X.getD i Prt.zero).rvs) i = (Prt.ofR ((fun i => (X.getD i Prt.zero).rvs) i)).rvs) ∧ (∀ (p : Prt), (p ∈ prtR X.length fun i => (X.getD i Prt.zero).rvs) → p.ok) ∧ (1 : Int) ≤ most ∧ most ≤ (100 : Int) ∧ X.length ≤ (1000 : Nat), Dec (pr.tmod (8 : Int) == (5 : Int)) false, Dec (pr.tmod (8 : Int) == (4 : Int)) false, Dec (pr.tmod (8 : Int) == (3 : Int)) false, Dec (pr.tmod (8 : Int) == (2 : Int)) false, Dec (pr.tmod (8 : Int) == (1 : Int)) false, Dec (pr.tmod (8 : Int) == (0 : Int)) false, (8 : Int) ≠ (0 : Int)]) (by kernel_rfl) (by refine ⟨?_, ?_, ?_, ?_, d6, d5, d4, d3, d2, d1, (?_ : (8 : Int) ≠ (0 : Int))⟩ <;> (first | (with_reducible rfl) | (with_reducible exact ⟨rfl, rfl⟩) | exact ⟨p1, p2⟩ | (exact (by decide : (8 : Int) ≠ 0)) | exact ⟨fun _ _ => rfl, by rw [prtR_ro]; exact hX, hm1, by omega, by omega⟩ | exact ⟨fun _ _ => rfl, rfl, by rw [consR_ro, prtR_ro]; exact hv⟩ | (simp only [et, prtR_ro, consR_ro, beq_iff_eq, beq_eq_false_iff_ne, ne_eq] at * <;> first | (rw [anyP_1 (by omega)]; done) | (rw [anyP_2 (by omega)]; done) | (rw [anyL_1 (by omega)]; exact ⟨rfl, rfl⟩) | (rw [anyL_2 (by omega) (by omega)]; exact ⟨rfl, rfl⟩) | (rw [anyL_3 (by omega)]; exact ⟨rfl, rfl⟩) | (rw [anyL_4 (by omega) (by omega)]; exact ⟨rfl, rfl⟩))))
noncomputable def bentI (L : List Con) (a : Int) : Nat := ((IntKind.i64.wrap a).tmod (L.length : Int)).toNat
noncomputable def bentP (p : Int) (L : List Con) (f n : Int) : Int := bif decide (0 < L.length) && (f % 8 == 6) then IntKind.i64.wrap (p + IntKind.i64.wrap (n.tmod 2)) else p
noncomputable def bentL (L : List Con) (a f n : Int) : List Con :=
  bif f % 8 == 0 then updE L (bentI L a) (IntKind.i64.wrap ((L.getD (bentI L a) Con.zero).exp + IntKind.i64.wrap (n.tmod 3)))
  else bif f % 8 == 1 then updD L (bentI L a) (IntKind.i64.wrap ((L.getD (bentI L a) Con.zero).dim + IntKind.i64.wrap (n.tmod 3)))
  else bif f % 8 == 2 then updS L (bentI L a) (IntKind.i64.wrap (n.tmod 3))
  else bif f % 8 == 3 then updO L (bentI L a) (!(L.getD (bentI L a) Con.zero).odd)
  else bif decide (f % 8 < 6) then updT L (bentI L a) (IntKind.i64.wrap ((L.getD (bentI L a) Con.zero).oddity + IntKind.i64.wrap (n.tmod 9)))
  else L
theorem bentL_len {L : List Con} {a f n : Int} : (bentL L a f n).length = L.length := by
  unfold bentL
  cases f % 8 == 0
  · cases f % 8 == 1
    · cases f % 8 == 2
      · cases f % 8 == 3
        · cases decide (f % 8 < 6) <;> simp [updT]
        · simp [updO]
      · simp [updS]
    · simp [updD]
  · simp [updE]
theorem bent_0 {L : List Con} {a f n : Int} (h : f % 8 = 0) : bentL L a f n = updE L (bentI L a) (IntKind.i64.wrap ((L.getD (bentI L a) Con.zero).exp + IntKind.i64.wrap (n.tmod 3))) := by unfold bentL; rw [h]; rfl
theorem bent_1 {L : List Con} {a f n : Int} (h : f % 8 = 1) : bentL L a f n = updD L (bentI L a) (IntKind.i64.wrap ((L.getD (bentI L a) Con.zero).dim + IntKind.i64.wrap (n.tmod 3))) := by unfold bentL; rw [h]; rfl
theorem bent_2 {L : List Con} {a f n : Int} (h : f % 8 = 2) : bentL L a f n = updS L (bentI L a) (IntKind.i64.wrap (n.tmod 3)) := by unfold bentL; rw [h]; rfl
theorem bent_3 {L : List Con} {a f n : Int} (h : f % 8 = 3) : bentL L a f n = updO L (bentI L a) (!(L.getD (bentI L a) Con.zero).odd) := by unfold bentL; rw [h]; rfl
theorem bent_4 {L : List Con} {a f n : Int} (h : f % 8 = 4 ∨ f % 8 = 5) : bentL L a f n = updT L (bentI L a) (IntKind.i64.wrap ((L.getD (bentI L a) Con.zero).oddity + IntKind.i64.wrap (n.tmod 9))) := by unfold bentL; rcases h with h | h <;> (rw [h]; rfl)
theorem bent_6 {L : List Con} {a f n : Int} (h : ¬ f % 8 < 6) : bentL L a f n = L := by
  unfold bentL
  rw [beq_eq_false_iff_ne.2 (by omega), beq_eq_false_iff_ne.2 (by omega), beq_eq_false_iff_ne.2 (by omega), beq_eq_false_iff_ne.2 (by omega), decide_eq_false h]; rfl
theorem bentP_y {p f n : Int} {L : List Con} (h : 0 < L.length) (h6 : f % 8 = 6) : bentP p L f n = IntKind.i64.wrap (p + IntKind.i64.wrap (n.tmod 2)) := by unfold bentP; rw [decide_eq_true h, h6]; rfl
theorem bentP_n {p f n : Int} {L : List Con} (h6 : ¬ f % 8 = 6) : bentP p L f n = p := by unfold bentP; rw [beq_eq_false_iff_ne.2 h6, Bool.and_false]; rfl
theorem bentP_0 {p f n : Int} {L : List Con} (h : ¬ 0 < L.length) : bentP p L f n = p := by unfold bentP; rw [decide_eq_false h]; rfl
theorem bentI_b {L : List Con} {a : Int} (ha : U8 a) (h : 0 < L.length) : 0 ≤ (IntKind.i64.wrap a).tmod (L.length : Int) ∧ (IntKind.i64.wrap a).tmod (L.length : Int) < (L.length : Int) := by
  obtain ⟨h1, h2⟩ := ha
  rw [w64 (by omega) (by omega), Int.tmod_eq_emod_of_nonneg h1]
  exact ⟨Int.emod_nonneg _ (by omega), Int.emod_lt_of_pos _ (by omega)⟩

set_option maxHeartbeats 2000000 in
set_option maxRecDepth 100000 in
theorem bent_pure (p : Int) (L : List Con) (a f n : Int) (hn : L.length ≤ 1000) (ha : U8 a) (hf : U8 f) : PureC Tryz.prog [] 8 [.agg [.int .i64 p, roC L], .int .u8 a, .int .u8 f, .int .i8 n] (.agg [.int .i64 (bentP p L f n), roC (bentL L a f n)]) := by
  have ft : f.tmod 8 = f % 8 := Int.tmod_eq_emod_of_nonneg hf.1; have f7 : 0 ≤ f % 8 ∧ f % 8 < 8 := (by omega); have hb := bentI_b (L := L) ha; have lE : ∀ v, (updE L (bentI L a) v).length = L.length := (fun v => by simp [updE]); have lD : ∀ v, (updD L (bentI L a) v).length = L.length := (fun v => by simp [updD]); have lS : ∀ v, (updS L (bentI L a) v).length = L.length := (fun v => by simp [updS]); have lO : ∀ v, (updO L (bentI L a) v).length = L.length := (fun v => by simp [updO]); have lT : ∀ v, (updT L (bentI L a) v).length = L.length := (fun v => by simp [updT])
  rcases Bool.eq_false_or_eq_true (L.length.beq (0 : Nat)) with d1 | d1
  · -- true
    exact pure_run evOk (callF_ok evOk (noOrc_ok _ _) 8) Tryz.func8 rfl none_ann rfl rfl evNg (tp := [true]) (ms := [p = bentP p L f n, (bentL L a f n).length = (0 : Nat), p = p, ∀ (i : Nat), i < L.length → (fun i => (L.getD i Con.zero).rvs) i = (Con.ofR ((fun i => (L.getD i Con.zero).rvs) i)).rvs, Dec (L.length.beq (0 : Nat)) true]) (by kernel_rfl) (by refine ⟨?_, ?_, ?_, ?_, d1⟩ <;> (first | (with_reducible rfl) | (with_reducible exact ⟨rfl, rfl⟩) | exact fun _ _ => rfl | (exact (by decide : (8 : Int) ≠ 0)) | (exact (by decide : (3 : Int) ≠ 0)) | (exact (by decide : (9 : Int) ≠ 0)) | (exact (by decide : (2 : Int) ≠ 0)) | (simp only [ft, consR_ro, Nat.beq_eq_true_eq, beq_iff_eq, beq_eq_false_iff_ne, ne_eq] at * <;> (have e0 : L.length = 0 ∨ 0 < L.length := Nat.eq_zero_or_pos _); first | omega | (have h0 := Nat.ne_of_beq_eq_false d1; exact ⟨by omega, by omega⟩) | (have h0 := Nat.ne_of_beq_eq_false d1; exact hb (by omega)) | (have h0 := Nat.ne_of_beq_eq_false d1; have := hb (by omega); omega) | (have h0 := Nat.ne_of_beq_eq_false d1; omega) | (have h0 := Nat.eq_of_beq_eq_true d1; first | (rw [bentP_0 (by omega)]; done) | (rw [bentL_len]; exact h0)) | (rw [bentP_n (by omega)]; done) | (have h0 := Nat.ne_of_beq_eq_false d1; rw [bentP_y (by omega) (by omega)]; done) | (rw [bent_0 (by omega)]; exact ⟨(lE _).symm, (lE _).symm, fun _ _ => rfl⟩) | (rw [bent_1 (by omega)]; exact ⟨(lD _).symm, (lD _).symm, fun _ _ => rfl⟩) | (rw [bent_2 (by omega)]; exact ⟨(lS _).symm, (lS _).symm, fun _ _ => rfl⟩) | (rw [bent_3 (by omega)]; exact ⟨(lO _).symm, (lO _).symm, fun _ _ => rfl⟩) | (rw [bent_4 (by omega)]; exact ⟨(lT _).symm, (lT _).symm, fun _ _ => rfl⟩) | (rw [bent_6 (by omega)]; exact ⟨by trivial, by trivial, fun _ _ => rfl⟩) | (exfalso; have h0 := Nat.ne_of_beq_eq_false d1; omega))))
  · -- false
    rcases Bool.eq_false_or_eq_true ((↑L.length : Int) == (0 : Int)) with d2 | d2
    · -- true
      exact pure_run evOk (callF_ok evOk (noOrc_ok _ _) 8) Tryz.func8 rfl none_ann rfl rfl evNg (tp := [false, true]) (ms := [p = bentP p L f n, L.length = (bentL L a f n).length ∧ L.length = (consR L.length fun i => (L.getD i Con.zero).rvs).length ∧ ∀ (i : Nat), i < L.length → (fun i => ((bentL L a f n).getD i Con.zero).rvs) i = ((consR L.length fun i => (L.getD i Con.zero).rvs).getD i Con.zero).rvs, Dec ((↑L.length : Int) == (0 : Int)) true, p = p, (0 : Nat) < L.length ∧ L.length ≤ (1000000 : Nat), ∀ (i : Nat), i < L.length → (fun i => (L.getD i Con.zero).rvs) i = (Con.ofR ((fun i => (L.getD i Con.zero).rvs) i)).rvs, Dec (L.length.beq (0 : Nat)) false]) (by kernel_rfl) (by refine ⟨?_, ?_, d2, ?_, ?_, ?_, d1⟩ <;> (first | (with_reducible rfl) | (with_reducible exact ⟨rfl, rfl⟩) | exact fun _ _ => rfl | (exact (by decide : (8 : Int) ≠ 0)) | (exact (by decide : (3 : Int) ≠ 0)) | (exact (by decide : (9 : Int) ≠ 0)) | (exact (by decide : (2 : Int) ≠ 0)) | (simp only [ft, consR_ro, Nat.beq_eq_true_eq, beq_iff_eq, beq_eq_false_iff_ne, ne_eq] at * <;> (have e0 : L.length = 0 ∨ 0 < L.length := Nat.eq_zero_or_pos _); first | omega | (have h0 := Nat.ne_of_beq_eq_false d1; exact ⟨by omega, by omega⟩) | (have h0 := Nat.ne_of_beq_eq_false d1; exact hb (by omega)) | (have h0 := Nat.ne_of_beq_eq_false d1; have := hb (by omega); omega) | (have h0 := Nat.ne_of_beq_eq_false d1; omega) | (have h0 := Nat.eq_of_beq_eq_true d1; first | (rw [bentP_0 (by omega)]; done) | (rw [bentL_len]; exact h0)) | (rw [bentP_n (by omega)]; done) | (have h0 := Nat.ne_of_beq_eq_false d1; rw [bentP_y (by omega) (by omega)]; done) | (rw [bent_0 (by omega)]; exact ⟨(lE _).symm, (lE _).symm, fun _ _ => rfl⟩) | (rw [bent_1 (by omega)]; exact ⟨(lD _).symm, (lD _).symm, fun _ _ => rfl⟩) | (rw [bent_2 (by omega)]; exact ⟨(lS _).symm, (lS _).symm, fun _ _ => rfl⟩) | (rw [bent_3 (by omega)]; exact ⟨(lO _).symm, (lO _).symm, fun _ _ => rfl⟩) | (rw [bent_4 (by omega)]; exact ⟨(lT _).symm, (lT _).symm, fun _ _ => rfl⟩) | (rw [bent_6 (by omega)]; exact ⟨by trivial, by trivial, fun _ _ => rfl⟩) | (exfalso; have h0 := Nat.ne_of_beq_eq_false d1; omega))))
    · -- false
      rcases Bool.eq_false_or_eq_true (f.tmod (8 : Int) == (0 : Int)) with d3 | d3
      · -- true
        exact pure_run evOk (callF_ok evOk (noOrc_ok _ _) 8) Tryz.func8 rfl none_ann rfl rfl evNg (tp := [false, false, true]) (ms := [p = bentP p L f n, L.length = (bentL L a f n).length ∧ L.length = (updE (consR L.length fun i => (L.getD i Con.zero).rvs) ((IntKind.i64.wrap a).tmod (↑L.length : Int)).toNat (IntKind.i64.wrap (((consR L.length fun i => (L.getD i Con.zero).rvs).getD ((IntKind.i64.wrap a).tmod (↑L.length : Int)).toNat Con.zero).exp + IntKind.i64.wrap (n.tmod (3 : Int))))).length ∧ ∀ (i : Nat), i < L.length → (fun i => ((bentL L a f n).getD i Con.zero).rvs) i = ((updE (consR L.length fun i => (L.getD i Con.zero).rvs) ((IntKind.i64.wrap a).tmod (↑L.length : Int)).toNat (IntKind.i64.wrap (((consR L.length fun i => (L.getD i Con.zero).rvs).getD ((IntKind.i64.wrap a).tmod (↑L.length : Int)).toNat Con.zero).exp + IntKind.i64.wrap (n.tmod (3 : Int))))).getD i Con.zero).rvs, ((IntKind.i64.wrap a).tmod (↑L.length : Int)).toNat < (consR L.length fun i => (L.getD i Con.zero).rvs).length, (3 : Int) ≠ (0 : Int), ((IntKind.i64.wrap a).tmod (↑L.length : Int)).toNat < (consR L.length fun i => (L.getD i Con.zero).rvs).length, Dec (f.tmod (8 : Int) == (0 : Int)) true, (8 : Int) ≠ (0 : Int), (0 : Int) ≤ (IntKind.i64.wrap a).tmod (↑L.length : Int) ∧ (IntKind.i64.wrap a).tmod (↑L.length : Int) < (↑L.length : Int), (↑L.length : Int) ≠ (0 : Int), Dec ((↑L.length : Int) == (0 : Int)) false, p = p, (0 : Nat) < L.length ∧ L.length ≤ (1000000 : Nat), ∀ (i : Nat), i < L.length → (fun i => (L.getD i Con.zero).rvs) i = (Con.ofR ((fun i => (L.getD i Con.zero).rvs) i)).rvs, Dec (L.length.beq (0 : Nat)) false]) (by kernel_rfl) (by refine ⟨?_, ?_, ?_, ?_, ?_, d3, ?_, ?_, ?_, d2, ?_, ?_, ?_, d1⟩ <;> (first | (with_reducible rfl) | (with_reducible exact ⟨rfl, rfl⟩) | exact fun _ _ => rfl | (exact (by decide : (8 : Int) ≠ 0)) | (exact (by decide : (3 : Int) ≠ 0)) | (exact (by decide : (9 : Int) ≠ 0)) | (exact (by decide : (2 : Int) ≠ 0)) | (simp only [ft, consR_ro, Nat.beq_eq_true_eq, beq_iff_eq, beq_eq_false_iff_ne, ne_eq] at * <;> (have e0 : L.length = 0 ∨ 0 < L.length := Nat.eq_zero_or_pos _); first | omega | (have h0 := Nat.ne_of_beq_eq_false d1; exact ⟨by omega, by omega⟩) | (have h0 := Nat.ne_of_beq_eq_false d1; exact hb (by omega)) | (have h0 := Nat.ne_of_beq_eq_false d1; have := hb (by omega); omega) | (have h0 := Nat.ne_of_beq_eq_false d1; omega) | (have h0 := Nat.eq_of_beq_eq_true d1; first | (rw [bentP_0 (by omega)]; done) | (rw [bentL_len]; exact h0)) | (rw [bentP_n (by omega)]; done) | (have h0 := Nat.ne_of_beq_eq_false d1; rw [bentP_y (by omega) (by omega)]; done) | (rw [bent_0 (by omega)]; exact ⟨(lE _).symm, (lE _).symm, fun _ _ => rfl⟩) | (rw [bent_1 (by omega)]; exact ⟨(lD _).symm, (lD _).symm, fun _ _ => rfl⟩) | (rw [bent_2 (by omega)]; exact ⟨(lS _).symm, (lS _).symm, fun _ _ => rfl⟩) | (rw [bent_3 (by omega)]; exact ⟨(lO _).symm, (lO _).symm, fun _ _ => rfl⟩) | (rw [bent_4 (by omega)]; exact ⟨(lT _).symm, (lT _).symm, fun _ _ => rfl⟩) | (rw [bent_6 (by omega)]; exact ⟨by trivial, by trivial, fun _ _ => rfl⟩) | (exfalso; have h0 := Nat.ne_of_beq_eq_false d1; omega))))
      · -- false
        rcases Bool.eq_false_or_eq_true (f.tmod (8 : Int) == (1 : Int)) with d4 | d4
        · -- true
          exact pure_run evOk (callF_ok evOk (noOrc_ok _ _) 8) Tryz.func8 rfl none_ann rfl rfl evNg (tp := [false, false, false, true]) (ms := [p = bentP p L f n, L.length = (bentL L a f n).length ∧ L.length = (updD (consR L.length fun i => (L.getD i Con.zero).rvs) ((IntKind.i64.wrap a).tmod (↑L.length : Int)).toNat (IntKind.i64.wrap (((consR L.length fun i => (L.getD i Con.zero).rvs).getD ((IntKind.i64.wrap a).tmod (↑L.length : Int)).toNat Con.zero).dim + IntKind.i64.wrap (n.tmod (3 : Int))))).length ∧ ∀ (i : Nat), i < L.length → (fun i => ((bentL L a f n).getD i Con.zero).rvs) i = ((updD (consR L.length fun i => (L.getD i Con.zero).rvs) ((IntKind.i64.wrap a).tmod (↑L.length : Int)).toNat (IntKind.i64.wrap (((consR L.length fun i => (L.getD i Con.zero).rvs).getD ((IntKind.i64.wrap a).tmod (↑L.length : Int)).toNat Con.zero).dim + IntKind.i64.wrap (n.tmod (3 : Int))))).getD i Con.zero).rvs, ((IntKind.i64.wrap a).tmod (↑L.length : Int)).toNat < (consR L.length fun i => (L.getD i Con.zero).rvs).length, (3 : Int) ≠ (0 : Int), ((IntKind.i64.wrap a).tmod (↑L.length : Int)).toNat < (consR L.length fun i => (L.getD i Con.zero).rvs).length, Dec (f.tmod (8 : Int) == (1 : Int)) true, Dec (f.tmod (8 : Int) == (0 : Int)) false, (8 : Int) ≠ (0 : Int), (0 : Int) ≤ (IntKind.i64.wrap a).tmod (↑L.length : Int) ∧ (IntKind.i64.wrap a).tmod (↑L.length : Int) < (↑L.length : Int), (↑L.length : Int) ≠ (0 : Int), Dec ((↑L.length : Int) == (0 : Int)) false, p = p, (0 : Nat) < L.length ∧ L.length ≤ (1000000 : Nat), ∀ (i : Nat), i < L.length → (fun i => (L.getD i Con.zero).rvs) i = (Con.ofR ((fun i => (L.getD i Con.zero).rvs) i)).rvs, Dec (L.length.beq (0 : Nat)) false]) (by kernel_rfl) (by refine ⟨?_, ?_, ?_, ?_, ?_, d4, d3, ?_, ?_, ?_, d2, ?_, ?_, ?_, d1⟩ <;> (first | (with_reducible rfl) | (with_reducible exact ⟨rfl, rfl⟩) | exact fun _ _ => rfl | (exact (by decide : (8 : Int) ≠ 0)) | (exact (by decide : (3 : Int) ≠ 0)) | (exact (by decide : (9 : Int) ≠ 0)) | (exact (by decide : (2 : Int) ≠ 0)) | (simp only [ft, consR_ro, Nat.beq_eq_true_eq, beq_iff_eq, beq_eq_false_iff_ne, ne_eq] at * <;> (have e0 : L.length = 0 ∨ 0 < L.length := Nat.eq_zero_or_pos _); first | omega | (have h0 := Nat.ne_of_beq_eq_false d1; exact ⟨by omega, by omega⟩) | (have h0 := Nat.ne_of_beq_eq_false d1; exact hb (by omega)) | (have h0 := Nat.ne_of_beq_eq_false d1; have := hb (by omega); omega) | (have h0 := Nat.ne_of_beq_eq_false d1; omega) | (have h0 := Nat.eq_of_beq_eq_true d1; first | (rw [bentP_0 (by omega)]; done) | (rw [bentL_len]; exact h0)) | (rw [bentP_n (by omega)]; done) | (have h0 := Nat.ne_of_beq_eq_false d1; rw [bentP_y (by omega) (by omega)]; done) | (rw [bent_0 (by omega)]; exact ⟨(lE _).symm, (lE _).symm, fun _ _ => rfl⟩) | (rw [bent_1 (by omega)]; exact ⟨(lD _).symm, (lD _).symm, fun _ _ => rfl⟩) | (rw [bent_2 (by omega)]; exact ⟨(lS _).symm, (lS _).symm, fun _ _ => rfl⟩) | (rw [bent_3 (by omega)]; exact ⟨(lO _).symm, (lO _).symm, fun _ _ => rfl⟩) | (rw [bent_4 (by omega)]; exact ⟨(lT _).symm, (lT _).symm, fun _ _ => rfl⟩) | (rw [bent_6 (by omega)]; exact ⟨by trivial, by trivial, fun _ _ => rfl⟩) | (exfalso; have h0 := Nat.ne_of_beq_eq_false d1; omega))))
        · -- false
          rcases Bool.eq_false_or_eq_true (f.tmod (8 : Int) == (2 : Int)) with d5 | d5
          · -- true
            exact pure_run evOk (callF_ok evOk (noOrc_ok _ _) 8) Tryz.func8 rfl none_ann rfl rfl evNg (tp := [false, false, false, false, true]) (ms := [p = bentP p L f n, L.length = (bentL L a f n).length ∧ L.length = (updS (consR L.length fun i => (L.getD i Con.zero).rvs) ((IntKind.i64.wrap a).tmod (↑L.length : Int)).toNat (IntKind.i64.wrap (n.tmod (3 : Int)))).length ∧ ∀ (i : Nat), i < L.length → (fun i => ((bentL L a f n).getD i Con.zero).rvs) i = ((updS (consR L.length fun i => (L.getD i Con.zero).rvs) ((IntKind.i64.wrap a).tmod (↑L.length : Int)).toNat (IntKind.i64.wrap (n.tmod (3 : Int)))).getD i Con.zero).rvs, ((IntKind.i64.wrap a).tmod (↑L.length : Int)).toNat < (consR L.length fun i => (L.getD i Con.zero).rvs).length, (3 : Int) ≠ (0 : Int), Dec (f.tmod (8 : Int) == (2 : Int)) true, Dec (f.tmod (8 : Int) == (1 : Int)) false, Dec (f.tmod (8 : Int) == (0 : Int)) false, (8 : Int) ≠ (0 : Int), (0 : Int) ≤ (IntKind.i64.wrap a).tmod (↑L.length : Int) ∧ (IntKind.i64.wrap a).tmod (↑L.length : Int) < (↑L.length : Int), (↑L.length : Int) ≠ (0 : Int), Dec ((↑L.length : Int) == (0 : Int)) false, p = p, (0 : Nat) < L.length ∧ L.length ≤ (1000000 : Nat), ∀ (i : Nat), i < L.length → (fun i => (L.getD i Con.zero).rvs) i = (Con.ofR ((fun i => (L.getD i Con.zero).rvs) i)).rvs, Dec (L.length.beq (0 : Nat)) false]) (by kernel_rfl) (by refine ⟨?_, ?_, ?_, ?_, d5, d4, d3, ?_, ?_, ?_, d2, ?_, ?_, ?_, d1⟩ <;> (first | (with_reducible rfl) | (with_reducible exact ⟨rfl, rfl⟩) | exact fun _ _ => rfl | (exact (by decide : (8 : Int) ≠ 0)) | (exact (by decide : (3 : Int) ≠ 0)) | (exact (by decide : (9 : Int) ≠ 0)) | (exact (by decide : (2 : Int) ≠ 0)) | (simp only [ft, consR_ro, Nat.beq_eq_true_eq, beq_iff_eq, beq_eq_false_iff_ne, ne_eq] at * <;> (have e0 : L.length = 0 ∨ 0 < L.length := Nat.eq_zero_or_pos _); first | omega | (have h0 := Nat.ne_of_beq_eq_false d1; exact ⟨by omega, by omega⟩) | (have h0 := Nat.ne_of_beq_eq_false d1; exact hb (by omega)) | (have h0 := Nat.ne_of_beq_eq_false d1; have := hb (by omega); omega) | (have h0 := Nat.ne_of_beq_eq_false d1; omega) | (have h0 := Nat.eq_of_beq_eq_true d1; first | (rw [bentP_0 (by omega)]; done) | (rw [bentL_len]; exact h0)) | (rw [bentP_n (by omega)]; done) | (have h0 := Nat.ne_of_beq_eq_false d1; rw [bentP_y (by omega) (by omega)]; done) | (rw [bent_0 (by omega)]; exact ⟨(lE _).symm, (lE _).symm, fun _ _ => rfl⟩) | (rw [bent_1 (by omega)]; exact ⟨(lD _).symm, (lD _).symm, fun _ _ => rfl⟩) | (rw [bent_2 (by omega)]; exact ⟨(lS _).symm, (lS _).symm, fun _ _ => rfl⟩) | (rw [bent_3 (by omega)]; exact ⟨(lO _).symm, (lO _).symm, fun _ _ => rfl⟩) | (rw [bent_4 (by omega)]; exact ⟨(lT _).symm, (lT _).symm, fun _ _ => rfl⟩) | (rw [bent_6 (by omega)]; exact ⟨by trivial, by trivial, fun _ _ => rfl⟩) | (exfalso; have h0 := Nat.ne_of_beq_eq_false d1; omega))))
          · -- false
            rcases Bool.eq_false_or_eq_true (f.tmod (8 : Int) == (3 : Int)) with d6 | d6
            · -- true
              exact pure_run evOk (callF_ok evOk (noOrc_ok _ _) 8) Tryz.func8 rfl none_ann rfl rfl evNg (tp := [false, false, false, false, false, true]) (ms := [p = bentP p L f n, L.length = (bentL L a f n).length ∧ L.length = (updO (consR L.length fun i => (L.getD i Con.zero).rvs) ((IntKind.i64.wrap a).tmod (↑L.length : Int)).toNat !((consR L.length fun i => (L.getD i Con.zero).rvs).getD ((IntKind.i64.wrap a).tmod (↑L.length : Int)).toNat Con.zero).odd).length ∧ ∀ (i : Nat), i < L.length → (fun i => ((bentL L a f n).getD i Con.zero).rvs) i = ((updO (consR L.length fun i => (L.getD i Con.zero).rvs) ((IntKind.i64.wrap a).tmod (↑L.length : Int)).toNat !((consR L.length fun i => (L.getD i Con.zero).rvs).getD ((IntKind.i64.wrap a).tmod (↑L.length : Int)).toNat Con.zero).odd).getD i Con.zero).rvs, ((IntKind.i64.wrap a).tmod (↑L.length : Int)).toNat < (consR L.length fun i => (L.getD i Con.zero).rvs).length, ((IntKind.i64.wrap a).tmod (↑L.length : Int)).toNat < (consR L.length fun i => (L.getD i Con.zero).rvs).length, Dec (f.tmod (8 : Int) == (3 : Int)) true, Dec (f.tmod (8 : Int) == (2 : Int)) false, Dec (f.tmod (8 : Int) == (1 : Int)) false, Dec (f.tmod (8 : Int) == (0 : Int)) false, (8 : Int) ≠ (0 : Int), (0 : Int) ≤ (IntKind.i64.wrap a).tmod (↑L.length : Int) ∧ (IntKind.i64.wrap a).tmod (↑L.length : Int) < (↑L.length : Int), (↑L.length : Int) ≠ (0 : Int), Dec ((↑L.length : Int) == (0 : Int)) false, p = p, (0 : Nat) < L.length ∧ L.length ≤ (1000000 : Nat), ∀ (i : Nat), i < L.length → (fun i => (L.getD i Con.zero).rvs) i = (Con.ofR ((fun i => (L.getD i Con.zero).rvs) i)).rvs, Dec (L.length.beq (0 : Nat)) false]) (by kernel_rfl) (by refine ⟨?_, ?_, ?_, ?_, d6, d5, d4, d3, ?_, ?_, ?_, d2, ?_, ?_, ?_, d1⟩ <;> (first | (with_reducible rfl) | (with_reducible exact ⟨rfl, rfl⟩) | exact fun _ _ => rfl | (exact (by decide : (8 : Int) ≠ 0)) | (exact (by decide : (3 : Int) ≠ 0)) | (exact (by decide : (9 : Int) ≠ 0)) | (exact (by decide : (2 : Int) ≠ 0)) | (simp only [ft, consR_ro, Nat.beq_eq_true_eq, beq_iff_eq, beq_eq_false_iff_ne, ne_eq] at * <;> (have e0 : L.length = 0 ∨ 0 < L.length := Nat.eq_zero_or_pos _); first | omega | (have h0 := Nat.ne_of_beq_eq_false d1; exact ⟨by omega, by omega⟩) | (have h0 := Nat.ne_of_beq_eq_false d1; exact hb (by omega)) | (have h0 := Nat.ne_of_beq_eq_false d1; have := hb (by omega); omega) | (have h0 := Nat.ne_of_beq_eq_false d1; omega) | (have h0 := Nat.eq_of_beq_eq_true d1; first | (rw [bentP_0 (by omega)]; done) | (rw [bentL_len]; exact h0)) | (rw [bentP_n (by omega)]; done) | (have h0 := Nat.ne_of_beq_eq_false d1; rw [bentP_y (by omega) (by omega)]; done) | (rw [bent_0 (by omega)]; exact ⟨(lE _).symm, (lE _).symm, fun _ _ => rfl⟩) | (rw [bent_1 (by omega)]; exact ⟨(lD _).symm, (lD _).symm, fun _ _ => rfl⟩) | (rw [bent_2 (by omega)]; exact ⟨(lS _).symm, (lS _).symm, fun _ _ => rfl⟩) | (rw [bent_3 (by omega)]; exact ⟨(lO _).symm, (lO _).symm, fun _ _ => rfl⟩) | (rw [bent_4 (by omega)]; exact ⟨(lT _).symm, (lT _).symm, fun _ _ => rfl⟩) | (rw [bent_6 (by omega)]; exact ⟨by trivial, by trivial, fun _ _ => rfl⟩) | (exfalso; have h0 := Nat.ne_of_beq_eq_false d1; omega))))
            · -- false
              rcases Bool.eq_false_or_eq_true (f.tmod (8 : Int) == (4 : Int)) with d7 | d7
              · -- true
                exact pure_run evOk (callF_ok evOk (noOrc_ok _ _) 8) Tryz.func8 rfl none_ann rfl rfl evNg (tp := [false, false, false, false, false, false, true, true]) (ms := [p = bentP p L f n, L.length = (bentL L a f n).length ∧ L.length = (updT (consR L.length fun i => (L.getD i Con.zero).rvs) ((IntKind.i64.wrap a).tmod (↑L.length : Int)).toNat (IntKind.i64.wrap (((consR L.length fun i => (L.getD i Con.zero).rvs).getD ((IntKind.i64.wrap a).tmod (↑L.length : Int)).toNat Con.zero).oddity + IntKind.i64.wrap (n.tmod (9 : Int))))).length ∧ ∀ (i : Nat), i < L.length → (fun i => ((bentL L a f n).getD i Con.zero).rvs) i = ((updT (consR L.length fun i => (L.getD i Con.zero).rvs) ((IntKind.i64.wrap a).tmod (↑L.length : Int)).toNat (IntKind.i64.wrap (((consR L.length fun i => (L.getD i Con.zero).rvs).getD ((IntKind.i64.wrap a).tmod (↑L.length : Int)).toNat Con.zero).oddity + IntKind.i64.wrap (n.tmod (9 : Int))))).getD i Con.zero).rvs, ((IntKind.i64.wrap a).tmod (↑L.length : Int)).toNat < (consR L.length fun i => (L.getD i Con.zero).rvs).length, (9 : Int) ≠ (0 : Int), ((IntKind.i64.wrap a).tmod (↑L.length : Int)).toNat < (consR L.length fun i => (L.getD i Con.zero).rvs).length, Dec (f.tmod (8 : Int) == (4 : Int)) true, Dec (f.tmod (8 : Int) == (4 : Int)) true, Dec (f.tmod (8 : Int) == (3 : Int)) false, Dec (f.tmod (8 : Int) == (2 : Int)) false, Dec (f.tmod (8 : Int) == (1 : Int)) false, Dec (f.tmod (8 : Int) == (0 : Int)) false, (8 : Int) ≠ (0 : Int), (0 : Int) ≤ (IntKind.i64.wrap a).tmod (↑L.length : Int) ∧ (IntKind.i64.wrap a).tmod (↑L.length : Int) < (↑L.length : Int), (↑L.length : Int) ≠ (0 : Int), Dec ((↑L.length : Int) == (0 : Int)) false, p = p, (0 : Nat) < L.length ∧ L.length ≤ (1000000 : Nat), ∀ (i : Nat), i < L.length → (fun i => (L.getD i Con.zero).rvs) i = (Con.ofR ((fun i => (L.getD i Con.zero).rvs) i)).rvs, Dec (L.length.beq (0 : Nat)) false]) (by kernel_rfl) (by refine ⟨?_, ?_, ?_, ?_, ?_, d7, d7, d6, d5, d4, d3, ?_, ?_, ?_, d2, ?_, ?_, ?_, d1⟩ <;> (first | (with_reducible rfl) | (with_reducible exact ⟨rfl, rfl⟩) | exact fun _ _ => rfl | (exact (by decide : (8 : Int) ≠ 0)) | (exact (by decide : (3 : Int) ≠ 0)) | (exact (by decide : (9 : Int) ≠ 0)) | (exact (by decide : (2 : Int) ≠ 0)) | (simp only [ft, consR_ro, Nat.beq_eq_true_eq, beq_iff_eq, beq_eq_false_iff_ne, ne_eq] at * <;> (have e0 : L.length = 0 ∨ 0 < L.length := Nat.eq_zero_or_pos _); first | omega | (have h0 := Nat.ne_of_beq_eq_false d1; exact ⟨by omega, by omega⟩) | (have h0 := Nat.ne_of_beq_eq_false d1; exact hb (by omega)) | (have h0 := Nat.ne_of_beq_eq_false d1; have := hb (by omega); omega) | (have h0 := Nat.ne_of_beq_eq_false d1; omega) | (have h0 := Nat.eq_of_beq_eq_true d1; first | (rw [bentP_0 (by omega)]; done) | (rw [bentL_len]; exact h0)) | (rw [bentP_n (by omega)]; done) | (have h0 := Nat.ne_of_beq_eq_false d1; rw [bentP_y (by omega) (by omega)]; done) | (rw [bent_0 (by omega)]; exact ⟨(lE _).symm, (lE _).symm, fun _ _ => rfl⟩) | (rw [bent_1 (by omega)]; exact ⟨(lD _).symm, (lD _).symm, fun _ _ => rfl⟩) | (rw [bent_2 (by omega)]; exact ⟨(lS _).symm, (lS _).symm, fun _ _ => rfl⟩) | (rw [bent_3 (by omega)]; exact ⟨(lO _).symm, (lO _).symm, fun _ _ => rfl⟩) | (rw [bent_4 (by omega)]; exact ⟨(lT _).symm, (lT _).symm, fun _ _ => rfl⟩) | (rw [bent_6 (by omega)]; exact ⟨by trivial, by trivial, fun _ _ => rfl⟩) | (exfalso; have h0 := Nat.ne_of_beq_eq_false d1; omega))))
              · -- false
                rcases Bool.eq_false_or_eq_true (f.tmod (8 : Int) == (5 : Int)) with d8 | d8
                · -- true
                  exact pure_run evOk (callF_ok evOk (noOrc_ok _ _) 8) Tryz.func8 rfl none_ann rfl rfl evNg (tp := [false, false, false, false, false, false, false, true]) (ms := [p = bentP p L f n, L.length = (bentL L a f n).length ∧ L.length = (updT (consR L.length fun i => (L.getD i Con.zero).rvs) ((IntKind.i64.wrap a).tmod (↑L.length : Int)).toNat (IntKind.i64.wrap (((consR L.length fun i => (L.getD i Con.zero).rvs).getD ((IntKind.i64.wrap a).tmod (↑L.length : Int)).toNat Con.zero).oddity + IntKind.i64.wrap (n.tmod (9 : Int))))).length ∧ ∀ (i : Nat), i < L.length → (fun i => ((bentL L a f n).getD i Con.zero).rvs) i = ((updT (consR L.length fun i => (L.getD i Con.zero).rvs) ((IntKind.i64.wrap a).tmod (↑L.length : Int)).toNat (IntKind.i64.wrap (((consR L.length fun i => (L.getD i Con.zero).rvs).getD ((IntKind.i64.wrap a).tmod (↑L.length : Int)).toNat Con.zero).oddity + IntKind.i64.wrap (n.tmod (9 : Int))))).getD i Con.zero).rvs, ((IntKind.i64.wrap a).tmod (↑L.length : Int)).toNat < (consR L.length fun i => (L.getD i Con.zero).rvs).length, (9 : Int) ≠ (0 : Int), ((IntKind.i64.wrap a).tmod (↑L.length : Int)).toNat < (consR L.length fun i => (L.getD i Con.zero).rvs).length, Dec (f.tmod (8 : Int) == (5 : Int)) true, Dec (f.tmod (8 : Int) == (4 : Int)) false, Dec (f.tmod (8 : Int) == (3 : Int)) false, Dec (f.tmod (8 : Int) == (2 : Int)) false, Dec (f.tmod (8 : Int) == (1 : Int)) false, Dec (f.tmod (8 : Int) == (0 : Int)) false, (8 : Int) ≠ (0 : Int), (0 : Int) ≤ (IntKind.i64.wrap a).tmod (↑L.length : Int) ∧ (IntKind.i64.wrap a).tmod (↑L.length : Int) < (↑L.length : Int), (↑L.length : Int) ≠ (0 : Int), Dec ((↑L.length : Int) == (0 : Int)) false, p = p, (0 : Nat) < L.length ∧ L.length ≤ (1000000 : Nat), ∀ (i : Nat), i < L.length → (fun i => (L.getD i Con.zero).rvs) i = (Con.ofR ((fun i => (L.getD i Con.zero).rvs) i)).rvs, Dec (L.length.beq (0 : Nat)) false]) (by kernel_rfl) (by refine ⟨?_, ?_, ?_, ?_, ?_, d8, d7, d6, d5, d4, d3, ?_, ?_, ?_, d2, ?_, ?_, ?_, d1⟩ <;> (first | (with_reducible rfl) | (with_reducible exact ⟨rfl, rfl⟩) | exact fun _ _ => rfl | (exact (by decide : (8 : Int) ≠ 0)) | (exact (by decide : (3 : Int) ≠ 0)) | (exact (by decide : (9 : Int) ≠ 0)) | (exact (by decide : (2 : Int) ≠ 0)) | (simp only [ft, consR_ro, Nat.beq_eq_true_eq, beq_iff_eq, beq_eq_false_iff_ne, ne_eq] at * <;> (have e0 : L.length = 0 ∨ 0 < L.length := Nat.eq_zero_or_pos _); first | omega | (have h0 := Nat.ne_of_beq_eq_false d1; exact ⟨by omega, by omega⟩) | (have h0 := Nat.ne_of_beq_eq_false d1; exact hb (by omega)) | (have h0 := Nat.ne_of_beq_eq_false d1; have := hb (by omega); omega) | (have h0 := Nat.ne_of_beq_eq_false d1; omega) | (have h0 := Nat.eq_of_beq_eq_true d1; first | (rw [bentP_0 (by omega)]; done) | (rw [bentL_len]; exact h0)) | (rw [bentP_n (by omega)]; done) | (have h0 := Nat.ne_of_beq_eq_false d1; rw [bentP_y (by omega) (by omega)]; done) | (rw [bent_0 (by omega)]; exact ⟨(lE _).symm, (lE _).symm, fun _ _ => rfl⟩) | (rw [bent_1 (by omega)]; exact ⟨(lD _).symm, (lD _).symm, fun _ _ => rfl⟩) | (rw [bent_2 (by omega)]; exact ⟨(lS _).symm, (lS _).symm, fun _ _ => rfl⟩) | (rw [bent_3 (by omega)]; exact ⟨(lO _).symm, (lO _).symm, fun _ _ => rfl⟩) | (rw [bent_4 (by omega)]; exact ⟨(lT _).symm, (lT _).symm, fun _ _ => rfl⟩) | (rw [bent_6 (by omega)]; exact ⟨by trivial, by trivial, fun _ _ => rfl⟩) | (exfalso; have h0 := Nat.ne_of_beq_eq_false d1; omega))))
                · -- false
                  rcases Bool.eq_false_or_eq_true (f.tmod (8 : Int) == (6 : Int)) with d9 | d9
                  · -- true
                    exact pure_run evOk (callF_ok evOk (noOrc_ok _ _) 8) Tryz.func8 rfl none_ann rfl rfl evNg (tp := [false, false, false, false, false, false, false, false, true]) (ms := [IntKind.i64.wrap (p + IntKind.i64.wrap (n.tmod (2 : Int))) = bentP p L f n, L.length = (bentL L a f n).length ∧ L.length = (consR L.length fun i => (L.getD i Con.zero).rvs).length ∧ ∀ (i : Nat), i < L.length → (fun i => ((bentL L a f n).getD i Con.zero).rvs) i = ((consR L.length fun i => (L.getD i Con.zero).rvs).getD i Con.zero).rvs, (2 : Int) ≠ (0 : Int), Dec (f.tmod (8 : Int) == (6 : Int)) true, Dec (f.tmod (8 : Int) == (5 : Int)) false, Dec (f.tmod (8 : Int) == (4 : Int)) false, Dec (f.tmod (8 : Int) == (3 : Int)) false, Dec (f.tmod (8 : Int) == (2 : Int)) false, Dec (f.tmod (8 : Int) == (1 : Int)) false, Dec (f.tmod (8 : Int) == (0 : Int)) false, (8 : Int) ≠ (0 : Int), (0 : Int) ≤ (IntKind.i64.wrap a).tmod (↑L.length : Int) ∧ (IntKind.i64.wrap a).tmod (↑L.length : Int) < (↑L.length : Int), (↑L.length : Int) ≠ (0 : Int), Dec ((↑L.length : Int) == (0 : Int)) false, p = p, (0 : Nat) < L.length ∧ L.length ≤ (1000000 : Nat), ∀ (i : Nat), i < L.length → (fun i => (L.getD i Con.zero).rvs) i = (Con.ofR ((fun i => (L.getD i Con.zero).rvs) i)).rvs, Dec (L.length.beq (0 : Nat)) false]) (by kernel_rfl) (by refine ⟨?_, ?_, ?_, d9, d8, d7, d6, d5, d4, d3, ?_, ?_, ?_, d2, ?_, ?_, ?_, d1⟩ <;> (first | (with_reducible rfl) | (with_reducible exact ⟨rfl, rfl⟩) | exact fun _ _ => rfl | (exact (by decide : (8 : Int) ≠ 0)) | (exact (by decide : (3 : Int) ≠ 0)) | (exact (by decide : (9 : Int) ≠ 0)) | (exact (by decide : (2 : Int) ≠ 0)) | (simp only [ft, consR_ro, Nat.beq_eq_true_eq, beq_iff_eq, beq_eq_false_iff_ne, ne_eq] at * <;> (have e0 : L.length = 0 ∨ 0 < L.length := Nat.eq_zero_or_pos _); first | omega | (have h0 := Nat.ne_of_beq_eq_false d1; exact ⟨by omega, by omega⟩) | (have h0 := Nat.ne_of_beq_eq_false d1; exact hb (by omega)) | (have h0 := Nat.ne_of_beq_eq_false d1; have := hb (by omega); omega) | (have h0 := Nat.ne_of_beq_eq_false d1; omega) | (have h0 := Nat.eq_of_beq_eq_true d1; first | (rw [bentP_0 (by omega)]; done) | (rw [bentL_len]; exact h0)) | (rw [bentP_n (by omega)]; done) | (have h0 := Nat.ne_of_beq_eq_false d1; rw [bentP_y (by omega) (by omega)]; done) | (rw [bent_0 (by omega)]; exact ⟨(lE _).symm, (lE _).symm, fun _ _ => rfl⟩) | (rw [bent_1 (by omega)]; exact ⟨(lD _).symm, (lD _).symm, fun _ _ => rfl⟩) | (rw [bent_2 (by omega)]; exact ⟨(lS _).symm, (lS _).symm, fun _ _ => rfl⟩) | (rw [bent_3 (by omega)]; exact ⟨(lO _).symm, (lO _).symm, fun _ _ => rfl⟩) | (rw [bent_4 (by omega)]; exact ⟨(lT _).symm, (lT _).symm, fun _ _ => rfl⟩) | (rw [bent_6 (by omega)]; exact ⟨by trivial, by trivial, fun _ _ => rfl⟩) | (exfalso; have h0 := Nat.ne_of_beq_eq_false d1; omega))))
                  · -- false
                    exact pure_run evOk (callF_ok evOk (noOrc_ok _ _) 8) Tryz.func8 rfl none_ann rfl rfl evNg (tp := [false, false, false, false, false, false, false, false, false]) (ms := [p = bentP p L f n, L.length = (bentL L a f n).length ∧ L.length = (consR L.length fun i => (L.getD i Con.zero).rvs).length ∧ ∀ (i : Nat), i < L.length → (fun i => ((bentL L a f n).getD i Con.zero).rvs) i = ((consR L.length fun i => (L.getD i Con.zero).rvs).getD i Con.zero).rvs, Dec (f.tmod (8 : Int) == (6 : Int)) false, Dec (f.tmod (8 : Int) == (5 : Int)) false, Dec (f.tmod (8 : Int) == (4 : Int)) false, Dec (f.tmod (8 : Int) == (3 : Int)) false, Dec (f.tmod (8 : Int) == (2 : Int)) false, Dec (f.tmod (8 : Int) == (1 : Int)) false, Dec (f.tmod (8 : Int) == (0 : Int)) false, (8 : Int) ≠ (0 : Int), (0 : Int) ≤ (IntKind.i64.wrap a).tmod (↑L.length : Int) ∧ (IntKind.i64.wrap a).tmod (↑L.length : Int) < (↑L.length : Int), (↑L.length : Int) ≠ (0 : Int), Dec ((↑L.length : Int) == (0 : Int)) false, p = p, (0 : Nat) < L.length ∧ L.length ≤ (1000000 : Nat), ∀ (i : Nat), i < L.length → (fun i => (L.getD i Con.zero).rvs) i = (Con.ofR ((fun i => (L.getD i Con.zero).rvs) i)).rvs, Dec (L.length.beq (0 : Nat)) false]) (by kernel_rfl) (by refine ⟨?_, ?_, d9, d8, d7, d6, d5, d4, d3, ?_, ?_, ?_, d2, ?_, ?_, ?_, d1⟩ <;> (first | (with_reducible rfl) | (with_reducible exact ⟨rfl, rfl⟩) | exact fun _ _ => rfl | (exact (by decide : (8 : Int) ≠ 0)) | (exact (by decide : (3 : Int) ≠ 0)) | (exact (by decide : (9 : Int) ≠ 0)) | (exact (by decide : (2 : Int) ≠ 0)) | (simp only [ft, consR_ro, Nat.beq_eq_true_eq, beq_iff_eq, beq_eq_false_iff_ne, ne_eq] at * <;> (have e0 : L.length = 0 ∨ 0 < L.length := Nat.eq_zero_or_pos _); first | omega | (have h0 := Nat.ne_of_beq_eq_false d1; exact ⟨by omega, by omega⟩) | (have h0 := Nat.ne_of_beq_eq_false d1; exact hb (by omega)) | (have h0 := Nat.ne_of_beq_eq_false d1; have := hb (by omega); omega) | (have h0 := Nat.ne_of_beq_eq_false d1; omega) | (have h0 := Nat.eq_of_beq_eq_true d1; first | (rw [bentP_0 (by omega)]; done) | (rw [bentL_len]; exact h0)) | (rw [bentP_n (by omega)]; done) | (have h0 := Nat.ne_of_beq_eq_false d1; rw [bentP_y (by omega) (by omega)]; done) | (rw [bent_0 (by omega)]; exact ⟨(lE _).symm, (lE _).symm, fun _ _ => rfl⟩) | (rw [bent_1 (by omega)]; exact ⟨(lD _).symm, (lD _).symm, fun _ _ => rfl⟩) | (rw [bent_2 (by omega)]; exact ⟨(lS _).symm, (lS _).symm, fun _ _ => rfl⟩) | (rw [bent_3 (by omega)]; exact ⟨(lO _).symm, (lO _).symm, fun _ _ => rfl⟩) | (rw [bent_4 (by omega)]; exact ⟨(lT _).symm, (lT _).symm, fun _ _ => rfl⟩) | (rw [bent_6 (by omega)]; exact ⟨by trivial, by trivial, fun _ _ => rfl⟩) | (exfalso; have h0 := Nat.ne_of_beq_eq_false d1; omega))))
end Go.Proofs.YtbjfdfjmclggkaaGreatDoor.S

/- awake of quadformlaw26 returns true. -/
namespace Go.Proofs.YtbjfdfjmclggkaaGreatDoor.S
open Go.QfSy Go.RowKit

set_option maxRecDepth 1000000 in
theorem awake_run : isT0 (bodyF EC (callF EC noOrc 60) noLo 7 (RV.avl []) ⟨trOf (tabList tabs), 1000, [], []⟩) = true := by kernel_rfl
theorem awake_pure : PureC Tryz.prog tabs 7 [] (.bool true) :=
  pure_true ecOk (callF_ok ecOk (noOrc_ok _ _) 60) rfl rfl ecNg awake_run
end Go.Proofs.YtbjfdfjmclggkaaGreatDoor.S

/- SymbolValid returns true. -/
set_option linter.unusedSimpArgs false
set_option linter.unusedVariables false
namespace Go.Proofs.YtbjfdfjmclggkaaGreatDoor.S
open Go.QfSy Go.RowKit

noncomputable abbrev vSv (p : Int) (L : List Con) : Bool := Q.vS p (L.map toQ)
theorem vL_ord : ∀ {L : List Con} {l s : Int}, -1 ≤ l → ordL L l s = true → (∀ c ∈ L, c.odd = false ∧ c.oddity = 0) → Q.vL (L.map toQ) s l = true
  | [], l, s, _, _, _ => rfl
  | c :: L, l, s, h0, h, he => by
    simp only [ordL, okO, Bool.and_eq_true, decide_eq_true_eq] at h
    simp only [List.map_cons, Q.vL, Q.vc, Bool.and_eq_true, decide_eq_true_eq]
    have h1 := he c (by simp)
    refine ⟨⟨h.1.2.2.1, h.1.2.1, h.1.2.2.2.2.1, h.1.2.2.2.2.2, h.1.2.2.2.1, h1.1, h1.2⟩, ?_⟩
    exact vL_ord (l := c.exp) (by omega) h.2 (fun x hx => he x (by simp [hx]))
theorem oddPr_cases (k : Int) : Q.oddPr k = 3 ∨ Q.oddPr k = 5 ∨ Q.oddPr k = 7 ∨ Q.oddPr k = 11 ∨ Q.oddPr k = 13 ∨ Q.oddPr k = 17 ∨ Q.oddPr k = 19 ∨ Q.oddPr k = 23 := by
  unfold Q.oddPr
  have h : k % 8 = 0 ∨ k % 8 = 1 ∨ k % 8 = 2 ∨ k % 8 = 3 ∨ k % 8 = 4 ∨ k % 8 = 5 ∨ k % 8 = 6 ∨ k % 8 = 7 := by omega
  rcases h with h | h | h | h | h | h | h | h <;> (rw [h]; simp)
theorem isP_odd23 {p : Int} (h : p = 3 ∨ p = 5 ∨ p = 7 ∨ p = 11 ∨ p = 13 ∨ p = 17 ∨ p = 19 ∨ p = 23) : Q.isP p = true := by
  rcases h with rfl | rfl | rfl | rfl | rfl | rfl | rfl | rfl
  · exact Q.isP_true (d := 2) (by omega) (by omega) (by omega) (by omega) (fun c h1 h2 => by omega)
  · exact Q.isP_true (d := 3) (by omega) (by omega) (by omega) (by omega) (fun c h1 h2 => by obtain rfl : c = 2 := by omega
                                                                                             decide)
  · exact Q.isP_true (d := 3) (by omega) (by omega) (by omega) (by omega) (fun c h1 h2 => by obtain rfl : c = 2 := by omega
                                                                                             decide)
  · exact Q.isP_true (d := 4) (by omega) (by omega) (by omega) (by omega) (fun c h1 h2 => by obtain rfl | rfl : c = 2 ∨ c = 3 := by omega
                                                                                             all_goals decide)
  · exact Q.isP_true (d := 4) (by omega) (by omega) (by omega) (by omega) (fun c h1 h2 => by obtain rfl | rfl : c = 2 ∨ c = 3 := by omega
                                                                                             all_goals decide)
  · exact Q.isP_true (d := 5) (by omega) (by omega) (by omega) (by omega) (fun c h1 h2 => by obtain rfl | rfl | rfl : c = 2 ∨ c = 3 ∨ c = 4 := by omega
                                                                                             all_goals decide)
  · exact Q.isP_true (d := 5) (by omega) (by omega) (by omega) (by omega) (fun c h1 h2 => by obtain rfl | rfl | rfl : c = 2 ∨ c = 3 ∨ c = 4 := by omega
                                                                                             all_goals decide)
  · exact Q.isP_true (d := 5) (by omega) (by omega) (by omega) (by omega) (fun c h1 h2 => by obtain rfl | rfl | rfl : c = 2 ∨ c = 3 ∨ c = 4 := by omega
                                                                                             all_goals decide)
theorem local_ok {k most : Int} {X : List Prt} (hX : ∀ p ∈ X, p.ok) (h1 : 1 ≤ most) (hm : most ≤ 8) : vSv (Q.oddPr k) (listV most false X) = true := by
  have ho := orderV_parts (ord_listV (two := false) h1 hm hX)
  have hl := vL_ord (by decide) ho.1 even_listV
  have hc := oddPr_cases k
  have hp := isP_odd23 hc
  have he : ((listV most false X).map toQ).isEmpty = false := by
    cases hx : listV most false X with
    | nil => rw [hx] at ho; simp at ho
    | cons a l => rfl
  have h2 : 2 < Q.oddPr k ∧ Q.oddPr k ≤ 9973 := by omega
  unfold vSv Q.vS
  simp [h2, hp, he, hl]

noncomputable def entsZ : List OEnt := [
  ⟨10, [offT], fun A => match A with
    | [.agg [.int .i64 p, .sl n 5 row]] => some (.bool (vSv p (consR n row)), [(∀ i, i < n → row i = (Con.ofR (row i)).rvs) ∧ n ≤ 1000])
    | _ => none⟩,
  ⟨11, [], fun A => match A with
    | [.agg [.int .i64 p, .sl n 5 row]] => some (.bool (vSv p (consR n row)), [(∀ i, i < n → row i = (Con.ofR (row i)).rvs) ∧ n ≤ 1000])
    | _ => none⟩,
  ⟨27, [], fun A => match A with
    | [.agg [.int .u8 pr, .sl n 5 row], .int .i64 most, .bool two] => some (roC (listV most two (prtR n row)), [(∀ i, i < n → row i = (Prt.ofR (row i)).rvs) ∧ (∀ p ∈ prtR n row, p.ok) ∧ 1 ≤ most ∧ most ≤ 100 ∧ n ≤ 1000])
    | _ => none⟩,
  ⟨26, [], fun A => match A with
    | [.int .u8 k] => some (.int .i64 (Q.oddPr k), [0 ≤ k ∧ k ≤ 255])
    | _ => none⟩,
  ⟨9, [], fun A => match A with
    | [.agg [.int .u8 pr, .sl n 5 row], .int .i64 most] => some (.agg [.int .i64 (anyP pr), roC (anyL pr (prtR n row) most)], [(∀ i, i < n → row i = (Prt.ofR (row i)).rvs) ∧ U8 pr ∧ (∀ p ∈ prtR n row, p.ok) ∧ n ≤ 900 ∧ 1 ≤ most ∧ most ≤ 8])
    | _ => none⟩,
  ⟨8, [], fun A => match A with
    | [.agg [.int .i64 p, .sl n 5 row], .int .u8 a, .int .u8 f, .int .i8 m] => some (.agg [.int .i64 (bentP p (consR n row) f m), roC (bentL (consR n row) a f m)], [(∀ i, i < n → row i = (Con.ofR (row i)).rvs) ∧ n ≤ 1000 ∧ U8 a ∧ U8 f])
    | _ => none⟩,
  ⟨7, tabs, fun A => match A with
    | [] => some (.bool true, [])
    | _ => none⟩]
theorem entsZ_ok : ∀ e ∈ entsZ, EntOk Tryz.prog e := by
  intro e he
  simp only [entsZ, List.mem_cons, List.not_mem_nil, or_false] at he
  rcases he with rfl | rfl | rfl | rfl | rfl | rfl | rfl
  all_goals
    intro A R ms h hm
    simp only at h
    split at h
    all_goals first | (cases h; done) | cases h
  · obtain ⟨h1, h2⟩ := all_one hm
    exact PureC.imp (valid_pure _ _ (by rw [consR_len]; exact h2)) (.cons (.agg (.cons .same (.cons (.con h1) .nil))) .nil)
  · obtain ⟨h1, h2⟩ := all_one hm
    exact PureC.imp (rvalid_pure _ _ (by rw [consR_len]; exact h2)) (.cons (.agg (.cons .same (.cons (.con h1) .nil))) .nil)
  · obtain ⟨h1, h2, h3, h4, h5⟩ := all_one hm
    exact list_rows h1 h2 h3 h4 h5
  · obtain ⟨h1, h2⟩ := all_one hm
    exact oddPrime_pure _ h1 h2
  · obtain ⟨h1, h2, h3, h4, h5, h6⟩ := all_one hm
    exact PureC.imp (any_pure _ _ _ h2 h3 (by rw [prtR_len]; exact h4) h5 h6) (.cons (.agg (.cons .same (.cons (.prt h1) .nil))) .same)
  · obtain ⟨h1, h2, h3, h4⟩ := all_one hm
    exact PureC.imp (bent_pure _ _ _ _ _ (by rw [consR_len]; exact h2) h3 h4) (.cons (.agg (.cons .same (.cons (.con h1) .nil))) .same)
  · exact awake_pure
theorem anyL_len {pr : Int} {X : List Prt} {most : Int} : (anyL pr X most).length ≤ X.length + 1 := by
  have h1 := listV_len (most := most) (two := false) (X := X)
  have h2 := listV_len (most := most) (two := true) (X := X)
  unfold anyL
  cases decide (pr % 8 < 3)
  · cases decide (pr % 8 < 5)
    · cases pr % 8 == 5
      · simp only [cond_false]; unfold canM; rw [canG_len, fuseM_len]; exact h2
      · simp only [cond_false, cond_true]; rw [fuseM_len]; exact h2
    · exact h2
  · exact h1

set_option maxHeartbeats 2000000 in
set_option maxRecDepth 100000 in
theorem symbolValid_pure (p : Int) (L : List Con) (kx : Int) (X : List Prt) (a f n : Int) (hk : U8 kx) (hX : ∀ p ∈ X, p.ok) (ha : U8 a) (hf : U8 f) : PureC Tryz.prog tabs 3 [.agg [.int .i64 p, roC L], .agg [.int .u8 kx, roP X], .int .u8 a, .int .u8 f, .int .i8 n] (.bool true) := by
  have hloc := local_ok (k := kx) (most := 8) hX (by decide) (by decide); have l1 := listV_len (most := 8) (two := false) (X := X); have l2 := anyL_len (pr := kx) (most := 8) (X := X); have l3 := bentL_len (L := anyL kx X 8) (a := a) (f := f) (n := n)
  rcases Bool.eq_false_or_eq_true (decide ((↑L.length : Int) > (20 : Int))) with d1 | d1
  · -- true
    exact pure_run evOk (callF_ok evOk (orcOf_ok entsZ_ok) 8) Tryz.func3 rfl none_ann rfl rfl evNg (tp := [true]) (ms := [true = true, Dec (decide ((↑L.length : Int) > (20 : Int))) true]) (by kernel_rfl) (by refine ⟨?_, d1⟩ <;> (first | (with_reducible rfl) | (with_reducible exact ⟨rfl, rfl⟩) | exact ⟨hk.1, hk.2⟩ | (simp only [prtR_ro, consR_ro, decide_eq_false_iff_not, gt_iff_lt] at * <;> first | trivial | exact ⟨fun _ _ => rfl, by omega⟩ | exact ⟨fun _ _ => rfl, hX, by decide, by decide, by omega⟩ | exact ⟨fun _ _ => rfl, hk, hX, by omega, by decide, by decide⟩ | exact ⟨fun _ _ => rfl, by omega, ha, hf⟩ | exact ⟨trivial, trivial⟩)))
  · -- false
    rcases Bool.eq_false_or_eq_true (decide ((↑X.length : Int) > (20 : Int))) with d2 | d2
    · -- true
      exact pure_run evOk (callF_ok evOk (orcOf_ok entsZ_ok) 8) Tryz.func3 rfl none_ann rfl rfl evNg (tp := [false, true]) (ms := [true = true, Dec (decide ((↑X.length : Int) > (20 : Int))) true, Dec (decide ((↑L.length : Int) > (20 : Int))) false]) (by kernel_rfl) (by refine ⟨?_, d2, d1⟩ <;> (first | (with_reducible rfl) | (with_reducible exact ⟨rfl, rfl⟩) | exact ⟨hk.1, hk.2⟩ | (simp only [prtR_ro, consR_ro, decide_eq_false_iff_not, gt_iff_lt] at * <;> first | trivial | exact ⟨fun _ _ => rfl, by omega⟩ | exact ⟨fun _ _ => rfl, hX, by decide, by decide, by omega⟩ | exact ⟨fun _ _ => rfl, hk, hX, by omega, by decide, by decide⟩ | exact ⟨fun _ _ => rfl, by omega, ha, hf⟩ | exact ⟨trivial, trivial⟩)))
    · -- false
      rcases Bool.eq_false_or_eq_true (vSv p (consR L.length fun i => (L.getD i Con.zero).rvs) == vSv p (consR L.length fun i => (L.getD i Con.zero).rvs)) with d3 | d3
      · -- true
        rcases Bool.eq_false_or_eq_true (vSv (bentP (anyP kx) (consR (anyL kx (prtR X.length fun i => (X.getD i Prt.zero).rvs) (8 : Int)).length fun i => ((anyL kx (prtR X.length fun i => (X.getD i Prt.zero).rvs) (8 : Int)).getD i Con.zero).rvs) f n) (consR (bentL (consR (anyL kx (prtR X.length fun i => (X.getD i Prt.zero).rvs) (8 : Int)).length fun i => ((anyL kx (prtR X.length fun i => (X.getD i Prt.zero).rvs) (8 : Int)).getD i Con.zero).rvs) a f n).length fun i => ((bentL (consR (anyL kx (prtR X.length fun i => (X.getD i Prt.zero).rvs) (8 : Int)).length fun i => ((anyL kx (prtR X.length fun i => (X.getD i Prt.zero).rvs) (8 : Int)).getD i Con.zero).rvs) a f n).getD i Con.zero).rvs) == vSv (bentP (anyP kx) (consR (anyL kx (prtR X.length fun i => (X.getD i Prt.zero).rvs) (8 : Int)).length fun i => ((anyL kx (prtR X.length fun i => (X.getD i Prt.zero).rvs) (8 : Int)).getD i Con.zero).rvs) f n) (consR (bentL (consR (anyL kx (prtR X.length fun i => (X.getD i Prt.zero).rvs) (8 : Int)).length fun i => ((anyL kx (prtR X.length fun i => (X.getD i Prt.zero).rvs) (8 : Int)).getD i Con.zero).rvs) a f n).length fun i => ((bentL (consR (anyL kx (prtR X.length fun i => (X.getD i Prt.zero).rvs) (8 : Int)).length fun i => ((anyL kx (prtR X.length fun i => (X.getD i Prt.zero).rvs) (8 : Int)).getD i Con.zero).rvs) a f n).getD i Con.zero).rvs)) with d4 | d4
        · -- true
          rcases Bool.eq_false_or_eq_true (vSv (Q.oddPr kx) (consR (listV (8 : Int) false (prtR X.length fun i => (X.getD i Prt.zero).rvs)).length fun i => ((listV (8 : Int) false (prtR X.length fun i => (X.getD i Prt.zero).rvs)).getD i Con.zero).rvs)) with d5 | d5
          · -- true
            exact pure_run evOk (callF_ok evOk (orcOf_ok entsZ_ok) 8) Tryz.func3 rfl none_ann rfl rfl evNg (tp := [false, false, true, true, true]) (ms := [true = true, Dec (vSv (Q.oddPr kx) (consR (listV (8 : Int) false (prtR X.length fun i => (X.getD i Prt.zero).rvs)).length fun i => ((listV (8 : Int) false (prtR X.length fun i => (X.getD i Prt.zero).rvs)).getD i Con.zero).rvs)) true, (∀ (i : Nat), i < (listV (8 : Int) false (prtR X.length fun i => (X.getD i Prt.zero).rvs)).length → (fun i => ((listV (8 : Int) false (prtR X.length fun i => (X.getD i Prt.zero).rvs)).getD i Con.zero).rvs) i = (Con.ofR ((fun i => ((listV (8 : Int) false (prtR X.length fun i => (X.getD i Prt.zero).rvs)).getD i Con.zero).rvs) i)).rvs) ∧ (listV (8 : Int) false (prtR X.length fun i => (X.getD i Prt.zero).rvs)).length ≤ (1000 : Nat), (∀ (i : Nat), i < X.length → (fun i => (X.getD i Prt.zero).rvs) i = (Prt.ofR ((fun i => (X.getD i Prt.zero).rvs) i)).rvs) ∧ (∀ (p : Prt), (p ∈ prtR X.length fun i => (X.getD i Prt.zero).rvs) → p.ok) ∧ (1 : Int) ≤ (8 : Int) ∧ (8 : Int) ≤ (100 : Int) ∧ X.length ≤ (1000 : Nat), kx = kx, X.length = X.length ∧ (fun i => (X.getD i Prt.zero).rvs) = fun i => (X.getD i Prt.zero).rvs, (0 : Int) ≤ kx ∧ kx ≤ (255 : Int), Dec (vSv (bentP (anyP kx) (consR (anyL kx (prtR X.length fun i => (X.getD i Prt.zero).rvs) (8 : Int)).length fun i => ((anyL kx (prtR X.length fun i => (X.getD i Prt.zero).rvs) (8 : Int)).getD i Con.zero).rvs) f n) (consR (bentL (consR (anyL kx (prtR X.length fun i => (X.getD i Prt.zero).rvs) (8 : Int)).length fun i => ((anyL kx (prtR X.length fun i => (X.getD i Prt.zero).rvs) (8 : Int)).getD i Con.zero).rvs) a f n).length fun i => ((bentL (consR (anyL kx (prtR X.length fun i => (X.getD i Prt.zero).rvs) (8 : Int)).length fun i => ((anyL kx (prtR X.length fun i => (X.getD i Prt.zero).rvs) (8 : Int)).getD i Con.zero).rvs) a f n).getD i Con.zero).rvs) == vSv (bentP (anyP kx) (consR (anyL kx (prtR X.length fun i => (X.getD i Prt.zero).rvs) (8 : Int)).length fun i => ((anyL kx (prtR X.length fun i => (X.getD i Prt.zero).rvs) (8 : Int)).getD i Con.zero).rvs) f n) (consR (bentL (consR (anyL kx (prtR X.length fun i => (X.getD i Prt.zero).rvs) (8 : Int)).length fun i => ((anyL kx (prtR X.length fun i => (X.getD i Prt.zero).rvs) (8 : Int)).getD i Con.zero).rvs) a f n).length fun i => ((bentL (consR (anyL kx (prtR X.length fun i => (X.getD i Prt.zero).rvs) (8 : Int)).length fun i => ((anyL kx (prtR X.length fun i => (X.getD i Prt.zero).rvs) (8 : Int)).getD i Con.zero).rvs) a f n).getD i Con.zero).rvs)) true, (∀ (i : Nat), i < (bentL (consR (anyL kx (prtR X.length fun i => (X.getD i Prt.zero).rvs) (8 : Int)).length fun i => ((anyL kx (prtR X.length fun i => (X.getD i Prt.zero).rvs) (8 : Int)).getD i Con.zero).rvs) a f n).length → (fun i => ((bentL (consR (anyL kx (prtR X.length fun i => (X.getD i Prt.zero).rvs) (8 : Int)).length fun i => ((anyL kx (prtR X.length fun i => (X.getD i Prt.zero).rvs) (8 : Int)).getD i Con.zero).rvs) a f n).getD i Con.zero).rvs) i = (Con.ofR ((fun i => ((bentL (consR (anyL kx (prtR X.length fun i => (X.getD i Prt.zero).rvs) (8 : Int)).length fun i => ((anyL kx (prtR X.length fun i => (X.getD i Prt.zero).rvs) (8 : Int)).getD i Con.zero).rvs) a f n).getD i Con.zero).rvs) i)).rvs) ∧ (bentL (consR (anyL kx (prtR X.length fun i => (X.getD i Prt.zero).rvs) (8 : Int)).length fun i => ((anyL kx (prtR X.length fun i => (X.getD i Prt.zero).rvs) (8 : Int)).getD i Con.zero).rvs) a f n).length ≤ (1000 : Nat), bentP (anyP kx) (consR (anyL kx (prtR X.length fun i => (X.getD i Prt.zero).rvs) (8 : Int)).length fun i => ((anyL kx (prtR X.length fun i => (X.getD i Prt.zero).rvs) (8 : Int)).getD i Con.zero).rvs) f n = bentP (anyP kx) (consR (anyL kx (prtR X.length fun i => (X.getD i Prt.zero).rvs) (8 : Int)).length fun i => ((anyL kx (prtR X.length fun i => (X.getD i Prt.zero).rvs) (8 : Int)).getD i Con.zero).rvs) f n, (bentL (consR (anyL kx (prtR X.length fun i => (X.getD i Prt.zero).rvs) (8 : Int)).length fun i => ((anyL kx (prtR X.length fun i => (X.getD i Prt.zero).rvs) (8 : Int)).getD i Con.zero).rvs) a f n).length = (bentL (consR (anyL kx (prtR X.length fun i => (X.getD i Prt.zero).rvs) (8 : Int)).length fun i => ((anyL kx (prtR X.length fun i => (X.getD i Prt.zero).rvs) (8 : Int)).getD i Con.zero).rvs) a f n).length ∧ (fun i => ((bentL (consR (anyL kx (prtR X.length fun i => (X.getD i Prt.zero).rvs) (8 : Int)).length fun i => ((anyL kx (prtR X.length fun i => (X.getD i Prt.zero).rvs) (8 : Int)).getD i Con.zero).rvs) a f n).getD i Con.zero).rvs) = fun i => ((bentL (consR (anyL kx (prtR X.length fun i => (X.getD i Prt.zero).rvs) (8 : Int)).length fun i => ((anyL kx (prtR X.length fun i => (X.getD i Prt.zero).rvs) (8 : Int)).getD i Con.zero).rvs) a f n).getD i Con.zero).rvs, (∀ (i : Nat), i < (bentL (consR (anyL kx (prtR X.length fun i => (X.getD i Prt.zero).rvs) (8 : Int)).length fun i => ((anyL kx (prtR X.length fun i => (X.getD i Prt.zero).rvs) (8 : Int)).getD i Con.zero).rvs) a f n).length → (fun i => ((bentL (consR (anyL kx (prtR X.length fun i => (X.getD i Prt.zero).rvs) (8 : Int)).length fun i => ((anyL kx (prtR X.length fun i => (X.getD i Prt.zero).rvs) (8 : Int)).getD i Con.zero).rvs) a f n).getD i Con.zero).rvs) i = (Con.ofR ((fun i => ((bentL (consR (anyL kx (prtR X.length fun i => (X.getD i Prt.zero).rvs) (8 : Int)).length fun i => ((anyL kx (prtR X.length fun i => (X.getD i Prt.zero).rvs) (8 : Int)).getD i Con.zero).rvs) a f n).getD i Con.zero).rvs) i)).rvs) ∧ (bentL (consR (anyL kx (prtR X.length fun i => (X.getD i Prt.zero).rvs) (8 : Int)).length fun i => ((anyL kx (prtR X.length fun i => (X.getD i Prt.zero).rvs) (8 : Int)).getD i Con.zero).rvs) a f n).length ≤ (1000 : Nat), Dec (vSv p (consR L.length fun i => (L.getD i Con.zero).rvs) == vSv p (consR L.length fun i => (L.getD i Con.zero).rvs)) true, (∀ (i : Nat), i < L.length → (fun i => (L.getD i Con.zero).rvs) i = (Con.ofR ((fun i => (L.getD i Con.zero).rvs) i)).rvs) ∧ L.length ≤ (1000 : Nat), p = p, L.length = L.length ∧ (fun i => (L.getD i Con.zero).rvs) = fun i => (L.getD i Con.zero).rvs, (∀ (i : Nat), i < L.length → (fun i => (L.getD i Con.zero).rvs) i = (Con.ofR ((fun i => (L.getD i Con.zero).rvs) i)).rvs) ∧ L.length ≤ (1000 : Nat), (∀ (i : Nat), i < (anyL kx (prtR X.length fun i => (X.getD i Prt.zero).rvs) (8 : Int)).length → (fun i => ((anyL kx (prtR X.length fun i => (X.getD i Prt.zero).rvs) (8 : Int)).getD i Con.zero).rvs) i = (Con.ofR ((fun i => ((anyL kx (prtR X.length fun i => (X.getD i Prt.zero).rvs) (8 : Int)).getD i Con.zero).rvs) i)).rvs) ∧ (anyL kx (prtR X.length fun i => (X.getD i Prt.zero).rvs) (8 : Int)).length ≤ (1000 : Nat) ∧ U8 a ∧ U8 f, (∀ (i : Nat), i < X.length → (fun i => (X.getD i Prt.zero).rvs) i = (Prt.ofR ((fun i => (X.getD i Prt.zero).rvs) i)).rvs) ∧ U8 kx ∧ (∀ (p : Prt), (p ∈ prtR X.length fun i => (X.getD i Prt.zero).rvs) → p.ok) ∧ X.length ≤ (900 : Nat) ∧ (1 : Int) ≤ (8 : Int) ∧ (8 : Int) ≤ (8 : Int), Dec (decide ((↑X.length : Int) > (20 : Int))) false, Dec (decide ((↑L.length : Int) > (20 : Int))) false]) (by kernel_rfl) (by refine ⟨?_, d5, ?_, ?_, ?_, ?_, ?_, d4, ?_, ?_, ?_, ?_, d3, ?_, ?_, ?_, ?_, ?_, ?_, d2, d1⟩ <;> (first | (with_reducible rfl) | (with_reducible exact ⟨rfl, rfl⟩) | exact ⟨hk.1, hk.2⟩ | (simp only [prtR_ro, consR_ro, decide_eq_false_iff_not, gt_iff_lt] at * <;> first | trivial | exact ⟨fun _ _ => rfl, by omega⟩ | exact ⟨fun _ _ => rfl, hX, by decide, by decide, by omega⟩ | exact ⟨fun _ _ => rfl, hk, hX, by omega, by decide, by decide⟩ | exact ⟨fun _ _ => rfl, by omega, ha, hf⟩ | exact ⟨trivial, trivial⟩)))
          · -- false
            exfalso
            first | (rw [beq_self_eq_true] at d3; cases d3; done) | (rw [beq_self_eq_true] at d4; cases d4; done) | (simp only [prtR_ro, consR_ro] at d5; rw [hloc] at d5; cases d5)
        · -- false
          exfalso
          first | (rw [beq_self_eq_true] at d3; cases d3; done) | (rw [beq_self_eq_true] at d4; cases d4; done) | (simp only [prtR_ro, consR_ro] at d5; rw [hloc] at d5; cases d5)
      · -- false
        exfalso
        first | (rw [beq_self_eq_true] at d3; cases d3; done) | (rw [beq_self_eq_true] at d4; cases d4; done) | (simp only [prtR_ro, consR_ro] at d5; rw [hloc] at d5; cases d5)
end Go.Proofs.YtbjfdfjmclggkaaGreatDoor.S

/- SymbolValid returns true whatever the input, and its arguments read as before: the row's statement. -/
namespace Go.Proofs.YtbjfdfjmclggkaaGreatDoor.symbolValid
open Go.ChangeShapes Go.WideShapes Go.ChangeAt Go.RowKit Go.Joins Go.Deep
open Go.QfSy (Con RV RRel RsRel FzAt roC Fz Tb TabW PureC)
open S

theorem readable : ∀ t ∈ Tryz.f3.params.toList, Tryz.prog.readableRec t = true ∧ t < Tryz.prog.types.size := by
  have h : (Tryz.f3.params.toList.all fun t => Tryz.prog.readableRec t && Nat.blt t Tryz.prog.types.size) = true := by kernel_rfl
  intro t ht
  have := List.all_eq_true.1 h t ht
  simp only [Bool.and_eq_true] at this
  exact ⟨this.1, Nat.le_of_ble_eq_true this.2⟩

set_option maxRecDepth 100000 in
theorem contract (H : Type) (enc : TypeId × Value → H) (W : World) (base : Nat) (args : Array Value) (ds gs : List (DataW H)) (before : List MemPlace)
    (hval : ∀ (j : Nat) t v, Tryz.f3.params[j]? = some t → args[j]? = some v → Value.okWide Tryz.prog W .any base t v)
    (hW : DataW.Whole enc Tryz.prog Tryz.f3.params.toList Rows.symbolValidSpec.vars false W args.toList ds gs before) (hO : TabW tabs W) :
    Calls Tryz.prog 3 args W fun e W' => ∃ v, e = .returned v ∧ Rows.symbolValidSpec.post enc Tryz.prog Tryz.f3 false true false false W args v W' := by
  have hW' := hW
  obtain ⟨p, q, hA0, hV, rfl, hfz, hnd⟩ := hW
  have hA : DataW.TrodAll enc Tryz.prog W 0 (fun _ => true) true Tryz.f3.params.toList args.toList ds p := hA0
  rw [Tryz.params3] at hA hval
  obtain ⟨v0, vs0, d0, ds0, p0, q0, hargs0, rfl, rfl, h0, r0⟩ := trodAll_cons hA
  obtain ⟨v1, vs1, d1, ds1, p1, q1, hargs1, rfl, rfl, h1, r1⟩ := trodAll_cons r0
  obtain ⟨v2, vs2, d2, ds2, p2, q2, hargs2, rfl, rfl, h2, r2⟩ := trodAll_cons r1
  obtain ⟨v3, vs3, d3, ds3, p3, q3, hargs3, rfl, rfl, h3, r3⟩ := trodAll_cons r2
  obtain ⟨v4, vs4, d4, ds4, p4, q4, hargs4, rfl, rfl, h4, r4⟩ := trodAll_cons r3
  obtain ⟨rfl, rfl, rfl⟩ := trodAll_nil r4
  obtain rfl : args = #[v0, v1, v2, v3, v4] := by cases args; simp_all
  obtain ⟨P0, L0, hr0, hP0, hn0, hf0⟩ := open_local localTys (hval 0 24 v0 rfl rfl) h0
  obtain ⟨P1, X1, hr1, hP1, hn1, ho1⟩ := open_symbol symbolTys (hval 1 27 v1 rfl rfl) h1
  obtain ⟨z2, rfl, rfl, rfl, hz2⟩ := open_int Tryz.underlying5 (hval 2 5 v2 rfl rfl) h2
  have hr2 : RRel (Wz W) (.int .u8 z2) (.int .u8 z2) := .int _ _
  obtain ⟨z3, rfl, rfl, rfl, hz3⟩ := open_int Tryz.underlying5 (hval 3 5 v3 rfl rfl) h3
  have hr3 : RRel (Wz W) (.int .u8 z3) (.int .u8 z3) := .int _ _
  obtain ⟨z4, rfl, rfl, rfl, hz4⟩ := open_int Tryz.underlying28 (hval 4 28 v4 rfl rfl) h4
  have hr4 : RRel (Wz W) (.int .i8 z4) (.int .i8 z4) := .int _ _
  refine (pure_calls (symbolValid_pure P0 L0 P1 X1 z2 z3 z4 hP1 ho1 (wf_u8 hz2) (wf_u8 hz3)) hO (.cons hr0 (.cons hr1 (.cons hr2 (.cons hr3 (.cons hr4 .nil)))))).mono fun e W' ⟨he, hb⟩ => ?_
  exact ⟨_, he, law_post laidOut readable rfl Tryz.underlying4 rfl hW' rfl hb⟩

def wArgs : Array Value := #[.agg #[.int .i64 0, .slice none 0 0], .agg #[.int .u8 0, .slice none 0 0], .int .u8 0, .int .u8 0, .int .i8 0]
theorem laid_met (os : Os) : laidMet Tryz.prog Rows.symbolValidRow.laid ((laidWorld os).forCall (fun _ _ => 0) ⟨#[], wArgs, []⟩).memory :=
  laidMet_of_run' 8 (by kernel_rfl) (by kernel_rfl)
theorem reads (os : Os) {H : Type} (enc : TypeId × Value → H) : ∃ ds places, DataW.whole enc Tryz.prog ((laidWorld os).forCall (fun _ _ => 0) ⟨#[], wArgs, []⟩).memory Tryz.f3.params.toList Rows.symbolValidSpec.vars false wArgs.toList 8 = some (ds, [], places) :=
  ⟨[.agg [.lit (.int .i64 0), .nil], .agg [.lit (.int .u8 0), .nil], .lit (.int .u8 0), .lit (.int .u8 0), .lit (.int .i8 0)], [], by kernel_rfl⟩

set_option maxRecDepth 100000 in
theorem lifted (os : Os) (started : os.Started) (H : Type) (enc : TypeId × Value → H) (F : Stop.Interp) :
    ReturnsInHanded {} Tryz.checked os 3 .any ((OpenSpec.ofChange Rows.symbolValidSpec).preRow enc Tryz.prog Tryz.f3 Rows.symbolValidRow.domain false Rows.symbolValidRow.laid) (((OpenSpec.ofChange Rows.symbolValidSpec).at F).post enc Tryz.prog Tryz.f3 false true false false) := by
  refine returnsInHanded_of_row (C := Tryz.checked) (s := OpenSpec.ofChange Rows.symbolValidSpec) own started (by kernel_rfl) Tryz.func3
    (witness_row_at (enc := enc) (C := Tryz.checked) false (laidWorld os) wArgs rfl (by kernel_rfl) (by kernel_rfl) (by kernel_rfl)
      (OpenSpec.preRow_of_cond 8 (reads os enc).choose_spec.choose_spec (by kernel_rfl) (fun k hk => by cases hk) (by kernel_rfl) (laid_met os))) ?_
  intro W base args ds gs before hval hW _ _ _ hL hS _
  exact contract H enc W base args ds gs before hval hW (tabs_of hL hS)

theorem named : Tryz.prog.funcNamed Rows.symbolValidRow.func = some 3 := by kernel_rfl
theorem facts : joinedFacts Tryz.prog 3 Tryz.f3 (OpenSpec.ofChange Rows.symbolValidSpec).bare Rows.symbolValidRow = true := by kernel_rfl
theorem inst : Tryz.f3.isInstance Tryz.prog Rows.symbolValidRow.origin Rows.symbolValidRow.targs := of_decide_eq_true (by kernel_rfl)
theorem wrap : Tryz.f3.isWrapper Tryz.prog Rows.symbolValidRow.wrapper Rows.symbolValidRow.mainSum := by
  unfold Func.isWrapper; first | (rw [if_pos (by decide +kernel)]; kernel_rfl) | (rw [if_neg (by decide +kernel)]; exact ⟨rfl, rfl⟩)
theorem said : Rows.SymbolValidSaid :=
  OpenClaim.holds_of_cond 3 Tryz.f3 rfl rfl rfl rfl rfl rfl rfl ⟨rfl, rfl, rfl, rfl, rfl⟩ rfl rfl rfl rfl rfl named Tryz.func3 facts inst wrap
    (fun os started H enc _ F => by rw [OpenClaim.pre_eq_preRow]; exact lifted os started H enc F)
end Go.Proofs.YtbjfdfjmclggkaaGreatDoor.symbolValid

/- SymbolValid returns true whatever the input, and its arguments read as before: the tied card. -/
namespace Go.Proofs.YtbjfdfjmclggkaaGreatDoor.symbolValid
open Go.ChangeShapes Go.WideShapes Go.ChangeAt Go.RowKit Go.Joins Go.Deep

theorem stands : (Tryz.f3.params.toList.all fun t => !Tryz.prog.wantsStandIn t) = true := by kernel_rfl
theorem looks : false = Tryz.prog.looks [] := by kernel_rfl
theorem plain (f : FuncId) (fn : Func) (hf : Tryz.pinned.checked.prog.funcNamed "quadform/quadformlaw26.SymbolValid" = some f) (hfn : Tryz.pinned.checked.prog.funcs[f]? = some fn) :
    false = Tryz.pinned.checked.prog.looks [] ∧ ∀ (j : Nat) t, fn.params[j]? = some t → Tryz.pinned.checked.prog.wantsStandIn t = false := by
  obtain rfl : f = 3 := Option.some.inj (named.symm.trans hf) |>.symm
  obtain rfl : fn = Tryz.f3 := (Option.some.inj (Tryz.func3.symm.trans hfn)).symm
  refine ⟨looks, fun j t ht => ?_⟩
  have := List.all_eq_true.1 stands t (by simpa using Array.mem_of_getElem? ht)
  exact (by simpa using this : Tryz.prog.wantsStandIn t = false)
theorem holds : Rows.SymbolValidCardSaid :=
  Claim7.holds_tied_plain_at .later [] _ _ _ _ said (fun _ h => by cases h) (by kernel_rfl) (fun _ h => by cases h) symbolValid_row_tie rfl ⟨rfl, rfl⟩ (by kernel_rfl) rfl plain (by kernel_rfl)
end Go.Proofs.YtbjfdfjmclggkaaGreatDoor.symbolValid

