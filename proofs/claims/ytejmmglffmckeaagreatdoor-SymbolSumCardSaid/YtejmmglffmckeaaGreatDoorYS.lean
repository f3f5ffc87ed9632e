/- quadformref24.SameList, quadformref26.Same of equal lists. -/
import Derived.Test.YtejmmglffmckeaaGreatDoorW9
import Derived.Test.YtejmmglffmckeaaGreatDoorD
import Derived.Laws.StructEq
namespace Go.Proofs.YtejmmglffmckeaaGreatDoor.Q
open Go.RowKit

theorem con_eql (c : Con) (w : World) : (binOp .neq 74 c.agg c.agg).run Tryz.prog w = .ok (.bool false) w := by
  have u3 := Tryz.underlying3
  have a3 := Tryz.isAgg3
  have z3 := Tryz.sizeOf3
  have u4 := Tryz.underlying4
  have a4 := Tryz.isAgg4
  have z4 := Tryz.sizeOf4
  have hS : Tryz.prog.underlying 74 = some (.struct (Tryz.prog.fieldsOf 74)) := by kernel_rfl
  have hp : Tryz.prog.stoodInHeld 74 = false := by kernel_rfl
  simp only [Con.agg]
  rw [run_neq_struct, show (10000 : Nat) = 9999 + 1 from rfl, run_equalIn_agg w 9999 74 _ _ hS hp]
  simp only [Program.fieldsOf, Tryz.underlying74]
  go_simp

set_option maxHeartbeats 4000000 in
theorem sameList_cons (l : List Con) (n b o cap b' o' cap' : Nat) (w : World) (hn : Hid (l.length = n)) (hn0 : 0 < n) (hn1 : n ≤ 1000) (hb : b < w.heap.size) (hb' : b' < w.heap.size)
    (hc : Hid (∀ i c, l[i]? = some c → ConAt w b (o + i * 5) c)) (hc' : Hid (∀ i c, l[i]? = some c → ConAt w b' (o' + i * 5) c)) :
    Calls Tryz.prog 62 #[.slice (some ⟨b, o, none⟩) n cap, .slice (some ⟨b', o', none⟩) n cap'] w fun e w' => e = .returned (.bool true) ∧ Below w.heap.size w w' := by
  go_enter Tryz.func62, Tryz.ntmps62
  go_wp2
  go_loopw [13] (fun i wr => ∃ (k : Nat), k ≤ n ∧ i = .int .i64 k ∧ Below w.heap.size w wr) (fun i _ => (n - (intOf i).toNat))
  case atStart => exact ⟨0, by omega, rfl, Below.refl _ _⟩
  case round =>
    obtain ⟨k, hk, rfl, hbe⟩ := hrel
    by_cases hlt : k < n
    · obtain ⟨c, hkc⟩ : ∃ c, l[k]? = some c := ⟨l[k]'(by rw [hn.out]; exact hlt), List.getElem?_eq_getElem _⟩
      obtain ⟨g0, g1, g2, g3, g4⟩ := (hc.out k c hkc).below hbe hb
      obtain ⟨f0, f1, f2, f3, f4⟩ := (hc'.out k c hkc).below hbe hb'
      have hix : (0 : Int) ≤ (k : Int) := by omega
      have hix' : (k : Int) < (n : Int) := by omega
      clear hkc
      have hneq := con_eql c
      unfold Con.agg at hneq
      go_wp2
      go_hide hQ
      go_quiet (fail)
      subst hQ
      go_wp2
      go_roundw
      case rel => exact ⟨k + 1, by omega, by go_num, below_drewN hbe _⟩
      case measure => simp [intOf]; omega
    · go_wp2
      go_ret
      exact ⟨rfl, hbe⟩
theorem sameList_nil (a a' : Option Addr) (cap cap' : Nat) (w : World) :
    Calls Tryz.prog 62 #[.slice a 0 cap, .slice a' 0 cap'] w fun e w' => e = .returned (.bool true) ∧ Below w.heap.size w w' := by
  go_enter Tryz.func62, Tryz.ntmps62
  go_wp2
  go_loopw [13] (fun i wr => i = .int .i64 0 ∧ wr = w) (fun _ _ => 0)
  case atStart => exact ⟨rfl, rfl⟩
  case round =>
    obtain ⟨rfl, rfl⟩ := hrel
    go_wp2
    go_ret
    exact ⟨rfl, Below.refl _ _⟩

theorem sameList_calls (l : List Con) (v v' : Value) (w : World) (h : Lst w v l) (h' : Lst w v' l) (hn : l.length ≤ 1000) :
    Calls Tryz.prog 62 #[v, v'] w fun e w' => e = .returned (.bool true) ∧ Below w.heap.size w w' := by
  rcases h with ⟨rfl, a, c, rfl⟩ | ⟨hne, b, o, cap, rfl, hb, hcp, hc⟩
  · rcases h' with ⟨_, a', c', rfl⟩ | ⟨hne, _⟩
    · exact sameList_nil a a' c c' w
    · exact absurd rfl hne
  · rcases h' with ⟨rfl, _⟩ | ⟨_, b', o', cap', rfl, hb', hcp', hc'⟩
    · exact absurd rfl hne
    · have hpos : 0 < l.length := by cases l; exact absurd rfl hne; simp
      exact sameList_cons l l.length b o cap b' o' cap' w rfl hpos hn hb hb' hc hc'

set_option maxRecDepth 100000 in
set_option maxHeartbeats 1000000 in
theorem same_calls (p : Int) (l : List Con) (a a' : Option Addr) (n n' c c' : Nat) (w : World) (h : Hid (Lst w (.slice a n c) l)) (h' : Hid (Lst w (.slice a' n' c') l)) (hn : Hid (l.length ≤ 1000)) :
    Calls Tryz.prog 27 #[.agg #[.int .i64 p, .slice a n c], .agg #[.int .i64 p, .slice a' n' c']] w fun e w' => e = .returned (.bool true) ∧ Below w.heap.size w w' := by
  have hcall := Lib.hid (fun (W : World) (hW : Below w.heap.size w W) => sameList_calls l (.slice a n c) (.slice a' n' c') W (h.out.below hW (Nat.le_refl _)) (h'.out.below hW (Nat.le_refl _)) hn.out)
  clear h h'
  go_enter Tryz.func27, Tryz.ntmps27
  go_wp2_with (go_at_call 62; refine (hcall.out _ ?_).mono ?_; (exact ((Below.refl _ _).alloc (Nat.le_refl _) _).alloc (by simp) _); rintro e w1 ⟨rfl, hb1⟩)
  go_ret
  exact ⟨rfl, (((Below.refl _ _).alloc (Nat.le_refl _) _).alloc (by simp) _).trans (hb1.mono (by simp; omega))⟩
end Go.Proofs.YtejmmglffmckeaaGreatDoor.Q
