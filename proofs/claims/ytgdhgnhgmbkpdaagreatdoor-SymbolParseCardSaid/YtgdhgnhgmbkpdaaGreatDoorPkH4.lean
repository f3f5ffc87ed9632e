/- A part of the proof of TiedSymbolParse: LM, CardSymbolParse, TiedSymbolParse. -/
import Derived.Test.YtgdhgnhgmbkpdaaGreatDoorPkH3
import Derived.Test.YtgdhgnhgmbkpdaaGreatDoorPkH2
import Derived.Test.YtgdhgnhgmbkpdaaGreatDoorPkH1
import Derived.ChangeMaps5
set_option linter.unusedSimpArgs false
set_option linter.unusedVariables false
set_option maxRecDepth 100000
namespace Go.Proofs.YtgdhgnhgmbkpdaaGreatDoor.S
open Go.QfSy Go.RowKit
noncomputable def entsLM (kx : Int) (X : List Prt) (t : ByteArray) : List OEnt := [
  ⟨15, [], fun A => match A with
    | [.str s] => some (.tup [.agg [.int .i64 (rPS s), roC (rLS s)], .int .i64 (rES s)], [s.size ≤ 900])
    | _ => none⟩,
  ⟨11, [], fun A => match A with
    | [.agg [.int .i64 p, .sl n 5 row]] => some (.tup [.str t, .int .i64 (fES p (consR n row))], [(∀ i, i < n → row i = (Con.ofR (row i)).rvs) ∧ p = Q.oddPr kx ∧ consR n row = listV 8 false X ∧ n ≤ 1000])
    | _ => none⟩,
  ⟨12, sTabs, fun A => match A with
    | [.str s] => some (.tup [.agg [.int .i64 (rPS s), roC (rLS s)], .int .i64 (rES s)], [s.size ≤ 900])
    | _ => none⟩,
  ⟨13, [], fun A => match A with
    | [.agg [.int .i64 p, .sl n 5 row], .agg [.int .i64 q, .sl m 5 row']] => some (.bool true, [(∀ i, i < n → row i = (Con.ofR (row i)).rvs) ∧ (∀ i, i < m → row' i = (Con.ofR (row' i)).rvs) ∧ p = q ∧ consR n row = consR m row' ∧ n ≤ 1000])
    | _ => none⟩,
  ⟨40, [], fun A => match A with
    | [.agg [.int .u8 pr, .sl n 5 row], .int .i64 most, .bool two] => some (roC (listV most two (prtR n row)), [(∀ i, i < n → row i = (Prt.ofR (row i)).rvs) ∧ (∀ p ∈ prtR n row, p.ok) ∧ 1 ≤ most ∧ most ≤ 100 ∧ n ≤ 1000])
    | _ => none⟩,
  ⟨39, [], fun A => match A with
    | [.int .u8 k] => some (.int .i64 (Q.oddPr k), [0 ≤ k ∧ k ≤ 255])
    | _ => none⟩,
  ⟨8, tabs, fun A => match A with
    | [] => some (.bool true, [])
    | _ => none⟩]
theorem entsLM_ok {kx : Int} {X : List Prt} {t : ByteArray} (ht : t = fTS (Q.oddPr kx) (listV 8 false X)) : ∀ e ∈ entsLM kx X t, EntOk Tryz.prog e := by
  intro e he
  simp only [entsLM, List.mem_cons, List.not_mem_nil, or_false] at he
  rcases he with rfl | rfl | rfl | rfl | rfl | rfl | rfl
  all_goals
    intro A R ms h hm
    simp only at h
    split at h
    all_goals first | (cases h; done) | cases h
  · exact rparseS_pure _ (all_one hm)
  · obtain ⟨h1, h2, h3, h4⟩ := all_one hm
    subst h2
    rw [ht, ← h3]
    exact PureC.imp (rfmtS_pure _ _ (by rw [consR_len]; exact h4)) (.cons (.agg (.cons .same (.cons (.con h1) .nil))) .nil)
  · have h1 := all_one hm
    exact resS_eq _ ▸ parseS_pure _ h1
  · obtain ⟨h1, h2, h3, h4, h5⟩ := all_one hm
    subst h3
    exact PureC.imp (same_pure _ _ (by rw [consR_len]; exact h5)) (.cons (.agg (.cons .same (.cons (.con h1) .nil))) (.cons (.agg (.cons .same (.cons (by rw [h4]; exact .con h2) .nil))) .nil))
  · obtain ⟨h1, h2, h3, h4, h5⟩ := all_one hm
    exact list_rows h1 h2 h3 h4 h5
  · obtain ⟨h1, h2⟩ := all_one hm
    exact oddPrime_pure _ h1 h2
  · exact awake_pure
theorem ext_size (s : ByteArray) (a b : Nat) : (s.extract a b).size ≤ s.size := by
  rw [ByteArray.size_extract]; omega
theorem fTS_small (p : Int) (L : List Con) : (fTS p L).size ≤ 200 := by
  unfold fTS
  cases h : vSv p L with
  | true =>
    obtain ⟨h1, h2, h3⟩ := vS_bounds h
    simp only [cond_true]
    unfold txS
    have := txB_size h1 (digS p ++ ⟨#[58]⟩)
    have h4 := digS_size h3.1 (by omega)
    rw [ByteArray.size_append, one_size] at this
    omega
  | false => exact Nat.zero_le _
theorem fTS_pos {p : Int} {L : List Con} (h : vSv p L = true) : 0 < (fTS p L).size := by
  unfold fTS
  rw [h]
  simp only [cond_true]
  unfold txS
  have := txB_ge L (digS p ++ ⟨#[58]⟩)
  rw [ByteArray.size_append, one_size] at this
  omega
theorem rLS_len {s : ByteArray} (hs : s.size ≤ 900) : (rLS s).length ≤ 1000 := by
  unfold rLS
  cases goodS s with
  | false => exact Nat.zero_le _
  | true =>
    simp only [cond_true]
    unfold conS rdW
    rw [List.length_map]
    have := words_len s
    omega
theorem at_wrap {a : Int} {n : Nat} (ha : U8 a) : IntKind.i64.wrap a = a := w64 (by have := ha.1; omega) (by have := ha.2; omega)
theorem at_rng {a : Int} {n : Nat} (ha : U8 a) (hn : 0 < n) : 0 ≤ a.tmod (n : Int) ∧ a.tmod (n : Int) < n := by
  obtain ⟨h0, h1⟩ := ha
  exact ⟨Int.tmod_nonneg _ h0, Int.tmod_lt_of_pos _ (by omega)⟩
theorem cat3_size (t u : ByteArray) (a b c d : Nat) : (t.extract a b ++ u ++ t.extract c d).size ≤ 2 * t.size + u.size := by
  have h1 := ext_size t a b
  have h2 := ext_size t c d
  rw [ByteArray.size_append, ByteArray.size_append]
  omega
theorem cat2_size (t : ByteArray) (a b c d : Nat) : (t.extract a b ++ t.extract c d).size ≤ 2 * t.size := by
  have h1 := ext_size t a b
  have h2 := ext_size t c d
  rw [ByteArray.size_append]
  omega
theorem cat1_size (t u : ByteArray) (a b : Nat) : (t.extract a b ++ u).size ≤ t.size + u.size := by
  have h1 := ext_size t a b
  rw [ByteArray.size_append]
  omega
theorem cat3s (t : ByteArray) (x : Int) (a b c d : Nat) : (t.extract a b ++ strOfNums [x] ++ t.extract c d).size ≤ 2 * t.size + 1 := cat3_size t (strOfNums [x]) a b c d
theorem cat1s (t : ByteArray) (x : Int) (a b c d : Nat) : (t.extract a b ++ strOfNums [x]).size + (t.extract c d).size ≤ 2 * t.size + 1 := by
  have h1 := cat1_size t (strOfNums [x]) a b
  have h2 := ext_size t c d
  have h3 : (strOfNums [x]).size = 1 := rfl
  omega
theorem ext1s (t : ByteArray) (x : Int) (a b : Nat) : (t.extract a b).size + (strOfNums [x]).size ≤ t.size + 1 := by
  have h1 := ext_size t a b
  have h3 : (strOfNums [x]).size = 1 := rfl
  omega
theorem ext2s (t : ByteArray) (a b c d : Nat) : (t.extract a b).size + (t.extract c d).size ≤ 2 * t.size := by
  have h1 := ext_size t a b
  have h2 := ext_size t c d
  omega
attribute [local irreducible] ByteArray.extract strOfNums ByteArray.size fTS fES rPS rLS rES
set_option maxHeartbeats 2000000 in
theorem symbolParse_t (s : ByteArray) (kx : Int) (X : List Prt) (a b : Int) (made drop : Bool) (t : ByteArray) (hk : U8 kx) (hX : ∀ p ∈ X, p.ok) (ha : U8 a) (hb : U8 b) (ht : t = fTS (Q.oddPr kx) (listV 8 false X)) : PureC Tryz.prog tabs 4 [.str s, .agg [.int .u8 kx, roP X], .int .u8 a, .int .u8 b, .bool made, .bool drop] (.bool true) := by
  have z0 := local_ok (k := kx) (most := 8) hX (by decide) (by decide); have z1 : 0 < t.size := (by rw [ht]; exact fTS_pos z0); have z2 : t.size ≤ 200 := (by rw [ht]; exact fTS_small _ _); have l1 := listV_len (most := 8) (two := false) (X := X); have hw : IntKind.i64.wrap a = a := at_wrap (n := 0) ha; have hr := at_rng (a := a) ha z1; have hw2 : IntKind.i64.wrap (a.tmod (t.size : Int) + 1) = a.tmod (t.size : Int) + 1 := w64 (by have := hr.1; omega) (by have := hr.2; omega)
  have rr := fun (tp : List Bool) (ms : List Prop) h hm => pure_run evOk (callF_ok evOk (orcOf_ok (entsLM_ok (kx := kx) (X := X) (t := t) ht)) 8) Tryz.func4 (A := [.str s, .agg [.int .u8 kx, roP X], .int .u8 a, .int .u8 b, .bool made, .bool drop]) rfl none_ann rfl rfl evNg (tabs := tabs) (R := .bool true) (tp := tp) (ms := ms) h hm
  refine oe (decide ((↑s.size : Int) > (300 : Int))) (fun d1 => rr [true] [true = true, Dec (decide ((↑s.size : Int) > (300 : Int))) true] (by kernel_rfl) ⟨?_, d1⟩) (fun d1 => oe (decide ((↑X.length : Int) > (20 : Int))) (fun d2 => rr [false, true] [true = true, Dec (decide ((↑X.length : Int) > (20 : Int))) true, Dec (decide ((↑s.size : Int) > (300 : Int))) false] (by kernel_rfl) ⟨?_, d2, d1⟩) (fun d2 => oe (made) (fun d3 => oe (drop) (fun d4 => oe (rES (t.extract (0 : Nat) ((IntKind.i64.wrap a).tmod (↑t.size : Int)).toNat ++ t.extract (IntKind.i64.wrap ((IntKind.i64.wrap a).tmod (↑t.size : Int) + 1)).toNat t.size) == rES (t.extract (0 : Nat) ((IntKind.i64.wrap a).tmod (↑t.size : Int)).toNat ++ t.extract (IntKind.i64.wrap ((IntKind.i64.wrap a).tmod (↑t.size : Int) + 1)).toNat t.size)) (fun d5 => oe (true) (fun d6 => rr [false, false, true, true, true, true] [true = true, Dec true true, (∀ (i : Nat), i < (rLS (t.extract (0 : Nat) ((IntKind.i64.wrap a).tmod (↑t.size : Int)).toNat ++ t.extract (IntKind.i64.wrap ((IntKind.i64.wrap a).tmod (↑t.size : Int) + 1)).toNat t.size)).length → ((rws (rLS (t.extract (0 : Nat) ((IntKind.i64.wrap a).tmod (↑t.size : Int)).toNat ++ t.extract (IntKind.i64.wrap ((IntKind.i64.wrap a).tmod (↑t.size : Int) + 1)).toNat t.size)))) i = (Con.ofR (((rws (rLS (t.extract (0 : Nat) ((IntKind.i64.wrap a).tmod (↑t.size : Int)).toNat ++ t.extract (IntKind.i64.wrap ((IntKind.i64.wrap a).tmod (↑t.size : Int) + 1)).toNat t.size)))) i)).rvs) ∧ (∀ (i : Nat), i < (rLS (t.extract (0 : Nat) ((IntKind.i64.wrap a).tmod (↑t.size : Int)).toNat ++ t.extract (IntKind.i64.wrap ((IntKind.i64.wrap a).tmod (↑t.size : Int) + 1)).toNat t.size)).length → ((rws (rLS (t.extract (0 : Nat) ((IntKind.i64.wrap a).tmod (↑t.size : Int)).toNat ++ t.extract (IntKind.i64.wrap ((IntKind.i64.wrap a).tmod (↑t.size : Int) + 1)).toNat t.size)))) i = (Con.ofR (((rws (rLS (t.extract (0 : Nat) ((IntKind.i64.wrap a).tmod (↑t.size : Int)).toNat ++ t.extract (IntKind.i64.wrap ((IntKind.i64.wrap a).tmod (↑t.size : Int) + 1)).toNat t.size)))) i)).rvs) ∧ rPS (t.extract (0 : Nat) ((IntKind.i64.wrap a).tmod (↑t.size : Int)).toNat ++ t.extract (IntKind.i64.wrap ((IntKind.i64.wrap a).tmod (↑t.size : Int) + 1)).toNat t.size) = rPS (t.extract (0 : Nat) ((IntKind.i64.wrap a).tmod (↑t.size : Int)).toNat ++ t.extract (IntKind.i64.wrap ((IntKind.i64.wrap a).tmod (↑t.size : Int) + 1)).toNat t.size) ∧ ((consR (rLS (t.extract (0 : Nat) ((IntKind.i64.wrap a).tmod (↑t.size : Int)).toNat ++ t.extract (IntKind.i64.wrap ((IntKind.i64.wrap a).tmod (↑t.size : Int) + 1)).toNat t.size)).length (rws (rLS (t.extract (0 : Nat) ((IntKind.i64.wrap a).tmod (↑t.size : Int)).toNat ++ t.extract (IntKind.i64.wrap ((IntKind.i64.wrap a).tmod (↑t.size : Int) + 1)).toNat t.size)))) = consR (rLS (t.extract (0 : Nat) ((IntKind.i64.wrap a).tmod (↑t.size : Int)).toNat ++ t.extract (IntKind.i64.wrap ((IntKind.i64.wrap a).tmod (↑t.size : Int) + 1)).toNat t.size)).length (rws (rLS (t.extract (0 : Nat) ((IntKind.i64.wrap a).tmod (↑t.size : Int)).toNat ++ t.extract (IntKind.i64.wrap ((IntKind.i64.wrap a).tmod (↑t.size : Int) + 1)).toNat t.size)))) ∧ (rLS (t.extract (0 : Nat) ((IntKind.i64.wrap a).tmod (↑t.size : Int)).toNat ++ t.extract (IntKind.i64.wrap ((IntKind.i64.wrap a).tmod (↑t.size : Int) + 1)).toNat t.size)).length ≤ (1000 : Nat), Dec (rES (t.extract (0 : Nat) ((IntKind.i64.wrap a).tmod (↑t.size : Int)).toNat ++ t.extract (IntKind.i64.wrap ((IntKind.i64.wrap a).tmod (↑t.size : Int) + 1)).toNat t.size) == rES (t.extract (0 : Nat) ((IntKind.i64.wrap a).tmod (↑t.size : Int)).toNat ++ t.extract (IntKind.i64.wrap ((IntKind.i64.wrap a).tmod (↑t.size : Int) + 1)).toNat t.size)) true, (t.extract (0 : Nat) ((IntKind.i64.wrap a).tmod (↑t.size : Int)).toNat ++ t.extract (IntKind.i64.wrap ((IntKind.i64.wrap a).tmod (↑t.size : Int) + 1)).toNat t.size).size ≤ (900 : Nat), (t.extract (0 : Nat) ((IntKind.i64.wrap a).tmod (↑t.size : Int)).toNat ++ t.extract (IntKind.i64.wrap ((IntKind.i64.wrap a).tmod (↑t.size : Int) + 1)).toNat t.size).size ≤ (900 : Nat), (t.extract (0 : Nat) ((IntKind.i64.wrap a).tmod (↑t.size : Int)).toNat).size + (t.extract (IntKind.i64.wrap ((IntKind.i64.wrap a).tmod (↑t.size : Int) + 1)).toNat t.size).size ≤ (1000000 : Nat), (0 : Int) ≤ IntKind.i64.wrap ((IntKind.i64.wrap a).tmod (↑t.size : Int) + 1) ∧ IntKind.i64.wrap ((IntKind.i64.wrap a).tmod (↑t.size : Int) + 1) ≤ ↑t.size, (0 : Int) ≤ (IntKind.i64.wrap a).tmod (↑t.size : Int) ∧ (IntKind.i64.wrap a).tmod (↑t.size : Int) ≤ ↑t.size, Dec drop true, (t.extract (0 : Nat) ((IntKind.i64.wrap a).tmod (↑t.size : Int)).toNat ++ strOfNums [b]).size + (t.extract (IntKind.i64.wrap ((IntKind.i64.wrap a).tmod (↑t.size : Int) + 1)).toNat t.size).size ≤ (1000000 : Nat), (0 : Int) ≤ IntKind.i64.wrap ((IntKind.i64.wrap a).tmod (↑t.size : Int) + 1) ∧ IntKind.i64.wrap ((IntKind.i64.wrap a).tmod (↑t.size : Int) + 1) ≤ ↑t.size, (t.extract (0 : Nat) ((IntKind.i64.wrap a).tmod (↑t.size : Int)).toNat).size + (strOfNums [b]).size ≤ (1000000 : Nat), (0 : Int) ≤ (IntKind.i64.wrap a).tmod (↑t.size : Int) ∧ (IntKind.i64.wrap a).tmod (↑t.size : Int) ≤ ↑t.size, (↑t.size : Int) ≠ (0 : Int), (∀ (i : Nat), i < (listV (8 : Int) false (prtR X.length fun i => (X.getD i Prt.zero).rvs)).length → ((rws (listV (8 : Int) false (prtR X.length fun i => (X.getD i Prt.zero).rvs)))) i = (Con.ofR (((rws (listV (8 : Int) false (prtR X.length fun i => (X.getD i Prt.zero).rvs)))) i)).rvs) ∧ Q.oddPr kx = Q.oddPr kx ∧ (consR (listV (8 : Int) false (prtR X.length fun i => (X.getD i Prt.zero).rvs)).length (rws (listV (8 : Int) false (prtR X.length fun i => (X.getD i Prt.zero).rvs)))) = listV (8 : Int) false X ∧ (listV (8 : Int) false (prtR X.length fun i => (X.getD i Prt.zero).rvs)).length ≤ (1000 : Nat), (∀ (i : Nat), i < X.length → (fun i => (X.getD i Prt.zero).rvs) i = (Prt.ofR ((fun i => (X.getD i Prt.zero).rvs) i)).rvs) ∧ (∀ (p : Prt), (p ∈ prtR X.length fun i => (X.getD i Prt.zero).rvs) → p.ok) ∧ (1 : Int) ≤ 8 ∧ (8 : Int) ≤ 100 ∧ X.length ≤ (1000 : Nat), kx = kx, X.length = X.length ∧ (fun i => (X.getD i Prt.zero).rvs) = fun i => (X.getD i Prt.zero).rvs, (0 : Int) ≤ kx ∧ kx ≤ 255, Dec made true, Dec (decide ((↑X.length : Int) > 20)) false, Dec (decide ((↑s.size : Int) > 300)) false] (by kernel_rfl) ⟨?_, d6, ?_, d5, ?_, ?_, ?_, ?_, ?_, d4, ?_, ?_, ?_, ?_, ?_, ?_, ?_, ?_, ?_, ?_, d3, d2, d1⟩) (fun d6 => CtG.no ?_)) (fun d5 => CtG.no ?_)) (fun d4 => oe (rES (t.extract (0 : Nat) ((IntKind.i64.wrap a).tmod (↑t.size : Int)).toNat ++ strOfNums [b] ++ t.extract (IntKind.i64.wrap ((IntKind.i64.wrap a).tmod (↑t.size : Int) + 1)).toNat t.size) == rES (t.extract (0 : Nat) ((IntKind.i64.wrap a).tmod (↑t.size : Int)).toNat ++ strOfNums [b] ++ t.extract (IntKind.i64.wrap ((IntKind.i64.wrap a).tmod (↑t.size : Int) + 1)).toNat t.size)) (fun d5 => oe (true) (fun d6 => rr [false, false, true, false, true, true] [true = true, Dec true true, (∀ (i : Nat), i < (rLS (t.extract (0 : Nat) ((IntKind.i64.wrap a).tmod (↑t.size : Int)).toNat ++ strOfNums [b] ++ t.extract (IntKind.i64.wrap ((IntKind.i64.wrap a).tmod (↑t.size : Int) + 1)).toNat t.size)).length → ((rws (rLS (t.extract (0 : Nat) ((IntKind.i64.wrap a).tmod (↑t.size : Int)).toNat ++ strOfNums [b] ++ t.extract (IntKind.i64.wrap ((IntKind.i64.wrap a).tmod (↑t.size : Int) + 1)).toNat t.size)))) i = (Con.ofR (((rws (rLS (t.extract (0 : Nat) ((IntKind.i64.wrap a).tmod (↑t.size : Int)).toNat ++ strOfNums [b] ++ t.extract (IntKind.i64.wrap ((IntKind.i64.wrap a).tmod (↑t.size : Int) + 1)).toNat t.size)))) i)).rvs) ∧ (∀ (i : Nat), i < (rLS (t.extract (0 : Nat) ((IntKind.i64.wrap a).tmod (↑t.size : Int)).toNat ++ strOfNums [b] ++ t.extract (IntKind.i64.wrap ((IntKind.i64.wrap a).tmod (↑t.size : Int) + 1)).toNat t.size)).length → ((rws (rLS (t.extract (0 : Nat) ((IntKind.i64.wrap a).tmod (↑t.size : Int)).toNat ++ strOfNums [b] ++ t.extract (IntKind.i64.wrap ((IntKind.i64.wrap a).tmod (↑t.size : Int) + 1)).toNat t.size)))) i = (Con.ofR (((rws (rLS (t.extract (0 : Nat) ((IntKind.i64.wrap a).tmod (↑t.size : Int)).toNat ++ strOfNums [b] ++ t.extract (IntKind.i64.wrap ((IntKind.i64.wrap a).tmod (↑t.size : Int) + 1)).toNat t.size)))) i)).rvs) ∧ rPS (t.extract (0 : Nat) ((IntKind.i64.wrap a).tmod (↑t.size : Int)).toNat ++ strOfNums [b] ++ t.extract (IntKind.i64.wrap ((IntKind.i64.wrap a).tmod (↑t.size : Int) + 1)).toNat t.size) = rPS (t.extract (0 : Nat) ((IntKind.i64.wrap a).tmod (↑t.size : Int)).toNat ++ strOfNums [b] ++ t.extract (IntKind.i64.wrap ((IntKind.i64.wrap a).tmod (↑t.size : Int) + 1)).toNat t.size) ∧ ((consR (rLS (t.extract (0 : Nat) ((IntKind.i64.wrap a).tmod (↑t.size : Int)).toNat ++ strOfNums [b] ++ t.extract (IntKind.i64.wrap ((IntKind.i64.wrap a).tmod (↑t.size : Int) + 1)).toNat t.size)).length (rws (rLS (t.extract (0 : Nat) ((IntKind.i64.wrap a).tmod (↑t.size : Int)).toNat ++ strOfNums [b] ++ t.extract (IntKind.i64.wrap ((IntKind.i64.wrap a).tmod (↑t.size : Int) + 1)).toNat t.size)))) = consR (rLS (t.extract (0 : Nat) ((IntKind.i64.wrap a).tmod (↑t.size : Int)).toNat ++ strOfNums [b] ++ t.extract (IntKind.i64.wrap ((IntKind.i64.wrap a).tmod (↑t.size : Int) + 1)).toNat t.size)).length (rws (rLS (t.extract (0 : Nat) ((IntKind.i64.wrap a).tmod (↑t.size : Int)).toNat ++ strOfNums [b] ++ t.extract (IntKind.i64.wrap ((IntKind.i64.wrap a).tmod (↑t.size : Int) + 1)).toNat t.size)))) ∧ (rLS (t.extract (0 : Nat) ((IntKind.i64.wrap a).tmod (↑t.size : Int)).toNat ++ strOfNums [b] ++ t.extract (IntKind.i64.wrap ((IntKind.i64.wrap a).tmod (↑t.size : Int) + 1)).toNat t.size)).length ≤ (1000 : Nat), Dec (rES (t.extract (0 : Nat) ((IntKind.i64.wrap a).tmod (↑t.size : Int)).toNat ++ strOfNums [b] ++ t.extract (IntKind.i64.wrap ((IntKind.i64.wrap a).tmod (↑t.size : Int) + 1)).toNat t.size) == rES (t.extract (0 : Nat) ((IntKind.i64.wrap a).tmod (↑t.size : Int)).toNat ++ strOfNums [b] ++ t.extract (IntKind.i64.wrap ((IntKind.i64.wrap a).tmod (↑t.size : Int) + 1)).toNat t.size)) true, (t.extract (0 : Nat) ((IntKind.i64.wrap a).tmod (↑t.size : Int)).toNat ++ strOfNums [b] ++ t.extract (IntKind.i64.wrap ((IntKind.i64.wrap a).tmod (↑t.size : Int) + 1)).toNat t.size).size ≤ (900 : Nat), (t.extract (0 : Nat) ((IntKind.i64.wrap a).tmod (↑t.size : Int)).toNat ++ strOfNums [b] ++ t.extract (IntKind.i64.wrap ((IntKind.i64.wrap a).tmod (↑t.size : Int) + 1)).toNat t.size).size ≤ (900 : Nat), Dec drop false, (t.extract (0 : Nat) ((IntKind.i64.wrap a).tmod (↑t.size : Int)).toNat ++ strOfNums [b]).size + (t.extract (IntKind.i64.wrap ((IntKind.i64.wrap a).tmod (↑t.size : Int) + 1)).toNat t.size).size ≤ (1000000 : Nat), (0 : Int) ≤ IntKind.i64.wrap ((IntKind.i64.wrap a).tmod (↑t.size : Int) + 1) ∧ IntKind.i64.wrap ((IntKind.i64.wrap a).tmod (↑t.size : Int) + 1) ≤ ↑t.size, (t.extract (0 : Nat) ((IntKind.i64.wrap a).tmod (↑t.size : Int)).toNat).size + (strOfNums [b]).size ≤ (1000000 : Nat), (0 : Int) ≤ (IntKind.i64.wrap a).tmod (↑t.size : Int) ∧ (IntKind.i64.wrap a).tmod (↑t.size : Int) ≤ ↑t.size, (↑t.size : Int) ≠ (0 : Int), (∀ (i : Nat), i < (listV (8 : Int) false (prtR X.length fun i => (X.getD i Prt.zero).rvs)).length → ((rws (listV (8 : Int) false (prtR X.length fun i => (X.getD i Prt.zero).rvs)))) i = (Con.ofR (((rws (listV (8 : Int) false (prtR X.length fun i => (X.getD i Prt.zero).rvs)))) i)).rvs) ∧ Q.oddPr kx = Q.oddPr kx ∧ (consR (listV (8 : Int) false (prtR X.length fun i => (X.getD i Prt.zero).rvs)).length (rws (listV (8 : Int) false (prtR X.length fun i => (X.getD i Prt.zero).rvs)))) = listV (8 : Int) false X ∧ (listV (8 : Int) false (prtR X.length fun i => (X.getD i Prt.zero).rvs)).length ≤ (1000 : Nat), (∀ (i : Nat), i < X.length → (fun i => (X.getD i Prt.zero).rvs) i = (Prt.ofR ((fun i => (X.getD i Prt.zero).rvs) i)).rvs) ∧ (∀ (p : Prt), (p ∈ prtR X.length fun i => (X.getD i Prt.zero).rvs) → p.ok) ∧ (1 : Int) ≤ 8 ∧ (8 : Int) ≤ 100 ∧ X.length ≤ (1000 : Nat), kx = kx, X.length = X.length ∧ (fun i => (X.getD i Prt.zero).rvs) = fun i => (X.getD i Prt.zero).rvs, (0 : Int) ≤ kx ∧ kx ≤ 255, Dec made true, Dec (decide ((↑X.length : Int) > 20)) false, Dec (decide ((↑s.size : Int) > 300)) false] (by kernel_rfl) ⟨?_, d6, ?_, d5, ?_, ?_, d4, ?_, ?_, ?_, ?_, ?_, ?_, ?_, ?_, ?_, ?_, d3, d2, d1⟩) (fun d6 => CtG.no ?_)) (fun d5 => CtG.no ?_))) (fun d3 => oe (rES s == rES s) (fun d4 => oe (true) (fun d5 => rr [false, false, false, true, true] [true = true, Dec true true, (∀ (i : Nat), i < (rLS s).length → ((rws (rLS s))) i = (Con.ofR (((rws (rLS s))) i)).rvs) ∧ (∀ (i : Nat), i < (rLS s).length → ((rws (rLS s))) i = (Con.ofR (((rws (rLS s))) i)).rvs) ∧ rPS s = rPS s ∧ ((consR (rLS s).length (rws (rLS s))) = consR (rLS s).length (rws (rLS s))) ∧ (rLS s).length ≤ (1000 : Nat), Dec (rES s == rES s) true, s.size ≤ (900 : Nat), s.size ≤ (900 : Nat), Dec made false, Dec (decide ((↑X.length : Int) > 20)) false, Dec (decide ((↑s.size : Int) > 300)) false] (by kernel_rfl) ⟨?_, d5, ?_, d4, ?_, ?_, d3, d2, d1⟩) (fun d5 => CtG.no ?_)) (fun d4 => CtG.no ?_))))
  all_goals first | (refine CtG.mk ?_; (first | (rw [beq_self_eq_true] at d4; cases d4; done) | (rw [beq_self_eq_true] at d5; cases d5; done) | exact absurd d6 (by decide) | exact absurd d5 (by decide))) | (first | (with_reducible rfl) | (with_reducible exact ⟨rfl, rfl⟩) | (with_reducible exact ⟨hk.1, hk.2⟩) | (with_reducible exact Nat.le_trans (cat2_size _ _ _ _ _) (by omega)) | (with_reducible exact Nat.le_trans (cat3s _ _ _ _ _ _) (by omega)) | (with_reducible exact Nat.le_trans (ext1s _ _ _ _) (by omega)) | (with_reducible exact Nat.le_trans (ext2s _ _ _ _ _) (by omega)) | (with_reducible exact Nat.le_trans (cat1s _ _ _ _ _ _) (by omega)) | (have q := of_decide_eq_false d1; omega) | (rw [hw]; exact ⟨by have := hr.1; omega, by have := hr.2; omega⟩) | (rw [hw, hw2]; exact ⟨by have := hr.1; omega, by have := hr.2; omega⟩) | exact ⟨fun _ _ => rfl, fun _ _ => rfl, rfl, rfl, rLS_len (by first | exact Nat.le_trans (cat2_size _ _ _ _ _) (by omega) | exact Nat.le_trans (cat3s _ _ _ _ _ _) (by omega) | (have q := of_decide_eq_false d1; omega))⟩ | exact ⟨fun _ _ => rfl, by rw [prtR_ro]; exact hX, by decide, by decide, (by have q := of_decide_eq_false d2; omega)⟩ | exact ⟨fun _ _ => rfl, rfl, (by simp only [prtR_ro, consR_ro]), (by simp only [prtR_ro]; have q := of_decide_eq_false d2; omega)⟩ | exact ⟨hk.1, hk.2⟩ | exact ⟨rfl, rfl⟩ | exact (5 : Nat))
theorem symbolParse_pure (s : ByteArray) (kx : Int) (X : List Prt) (a b : Int) (made drop : Bool) (hk : U8 kx) (hX : ∀ p ∈ X, p.ok) (ha : U8 a) (hb : U8 b) : PureC Tryz.prog tabs 4 [.str s, .agg [.int .u8 kx, roP X], .int .u8 a, .int .u8 b, .bool made, .bool drop] (.bool true) :=
  symbolParse_t s kx X a b made drop _ hk hX ha hb rfl
end Go.Proofs.YtgdhgnhgmbkpdaaGreatDoor.S

namespace Go.Proofs.YtgdhgnhgmbkpdaaGreatDoor.symbolParse
open Go.ChangeShapes Go.WideShapes Go.ChangeAt Go.RowKit Go.Joins Go.Deep
open Go.QfSy (Con RV RRel RsRel FzAt roC Fz Tb TabW PureC)
open S
theorem readable : ∀ t ∈ Tryz.f4.params.toList, Tryz.prog.readableRec t = true ∧ t < Tryz.prog.types.size := by
  have h : (Tryz.f4.params.toList.all fun t => Tryz.prog.readableRec t && Nat.blt t Tryz.prog.types.size) = true := by kernel_rfl
  intro t ht
  have := List.all_eq_true.1 h t ht
  simp only [Bool.and_eq_true] at this
  exact ⟨this.1, Nat.le_of_ble_eq_true this.2⟩
theorem contract (H : Type) (enc : TypeId × Value → H) (W : World) (base : Nat) (args : Array Value) (ds gs : List (DataW H)) (before : List MemPlace)
    (hval : ∀ (j : Nat) t v, Tryz.f4.params[j]? = some t → args[j]? = some v → Value.okWide Tryz.prog W .any base t v)
    (hW : DataW.Whole enc Tryz.prog Tryz.f4.params.toList Rows.symbolParseSpec.vars false W args.toList ds gs before) (hO : TabW tabs W) :
    Calls Tryz.prog 4 args W fun e W' => ∃ v, e = .returned v ∧ Rows.symbolParseSpec.post enc Tryz.prog Tryz.f4 false true false false W args v W' := by
  have hW' := hW
  obtain ⟨p, q, hA0, hV, rfl, hfz, hnd⟩ := hW
  have hA : DataW.TrodAll enc Tryz.prog W 0 (fun _ => true) true Tryz.f4.params.toList args.toList ds p := hA0
  rw [Tryz.params4] at hA hval
  obtain ⟨v0, vs0, d0, ds0, p0, q0, hargs0, rfl, rfl, h0, r0⟩ := trodAll_cons hA
  obtain ⟨v1, vs1, d1, ds1, p1, q1, hargs1, rfl, rfl, h1, r1⟩ := trodAll_cons r0
  obtain ⟨v2, vs2, d2, ds2, p2, q2, hargs2, rfl, rfl, h2, r2⟩ := trodAll_cons r1
  obtain ⟨v3, vs3, d3, ds3, p3, q3, hargs3, rfl, rfl, h3, r3⟩ := trodAll_cons r2
  obtain ⟨v4, vs4, d4, ds4, p4, q4, hargs4, rfl, rfl, h4, r4⟩ := trodAll_cons r3
  obtain ⟨v5, vs5, d5, ds5, p5, q5, hargs5, rfl, rfl, h5, r5⟩ := trodAll_cons r4
  obtain ⟨rfl, rfl, rfl⟩ := trodAll_nil r5
  obtain rfl : args = #[v0, v1, v2, v3, v4, v5] := by cases args; simp_all
  obtain ⟨s0, rfl, rfl, rfl, hs0⟩ := Go.ChangeMaps.open_string Tryz.underlying9 (hval 0 9 v0 rfl rfl) h0
  have hr0 : RRel (Wz W) (.str s0) (.string s0) := .str _
  obtain ⟨P1, X1, hr1, hP1, hn1, ho1⟩ := open_symbol symbolTys (hval 1 27 v1 rfl rfl) h1
  obtain ⟨z2, rfl, rfl, rfl, hz2⟩ := open_int Tryz.underlying5 (hval 2 5 v2 rfl rfl) h2
  have hr2 : RRel (Wz W) (.int .u8 z2) (.int .u8 z2) := .int _ _
  obtain ⟨z3, rfl, rfl, rfl, hz3⟩ := open_int Tryz.underlying5 (hval 3 5 v3 rfl rfl) h3
  have hr3 : RRel (Wz W) (.int .u8 z3) (.int .u8 z3) := .int _ _
  obtain ⟨b4, rfl, rfl, rfl⟩ := open_bool Tryz.underlying4 (hval 4 4 v4 rfl rfl) h4
  have hr4 : RRel (Wz W) (.bool b4) (.bool b4) := .bool _
  obtain ⟨b5, rfl, rfl, rfl⟩ := open_bool Tryz.underlying4 (hval 5 4 v5 rfl rfl) h5
  have hr5 : RRel (Wz W) (.bool b5) (.bool b5) := .bool _
  refine (pure_calls (symbolParse_pure s0 P1 X1 z2 z3 b4 b5 hP1 ho1 (wf_u8 hz2) (wf_u8 hz3)) hO (.cons hr0 (.cons hr1 (.cons hr2 (.cons hr3 (.cons hr4 (.cons hr5 .nil))))))).mono fun e W' ⟨he, hb⟩ => ?_
  exact ⟨_, he, law_post laidOut readable rfl Tryz.underlying4 rfl hW' rfl hb⟩
def wArgs : Array Value := #[.string ⟨#[]⟩, .agg #[.int .u8 0, .slice none 0 0], .int .u8 0, .int .u8 0, .bool false, .bool false]
theorem laid_met (os : Os) : laidMet Tryz.prog Rows.symbolParseRow.laid ((laidWorld os).forCall (fun _ _ => 0) ⟨#[], wArgs, []⟩).memory :=
  laidMet_of_run3 8 (by kernel_rfl) (by kernel_rfl) (by kernel_rfl)
theorem reads (os : Os) {H : Type} (enc : TypeId × Value → H) : ∃ ds places, DataW.whole enc Tryz.prog ((laidWorld os).forCall (fun _ _ => 0) ⟨#[], wArgs, []⟩).memory Tryz.f4.params.toList Rows.symbolParseSpec.vars false wArgs.toList 8 = some (ds, [], places) :=
  ⟨[.lit (.string []), .agg [.lit (.int .u8 0), .nil], .lit (.int .u8 0), .lit (.int .u8 0), .lit (.bool false), .lit (.bool false)], [], by kernel_rfl⟩
theorem lifted (os : Os) (started : os.Started) (H : Type) (enc : TypeId × Value → H) (F : Stop.Interp) :
    ReturnsInHanded {} Tryz.checked os 4 .any ((OpenSpec.ofChange Rows.symbolParseSpec).preRow enc Tryz.prog Tryz.f4 Rows.symbolParseRow.domain false Rows.symbolParseRow.laid) (((OpenSpec.ofChange Rows.symbolParseSpec).at F).post enc Tryz.prog Tryz.f4 false true false false) := by
  refine returnsInHanded_of_row (C := Tryz.checked) (s := OpenSpec.ofChange Rows.symbolParseSpec) own started (by kernel_rfl) Tryz.func4
    (witness_row_at (enc := enc) (C := Tryz.checked) false (laidWorld os) wArgs rfl (by kernel_rfl) (by kernel_rfl) (by kernel_rfl)
      (OpenSpec.preRow_of_cond 8 (reads os enc).choose_spec.choose_spec (by kernel_rfl) (fun k hk => by cases hk) (by kernel_rfl) (laid_met os))) ?_
  intro W base args ds gs before hval hW _ _ _ hL hS _
  exact contract H enc W base args ds gs before hval hW (tabs_of hL hS)
theorem named : Tryz.prog.funcNamed Rows.symbolParseRow.func = some 4 := by kernel_rfl
theorem facts : joinedFacts Tryz.prog 4 Tryz.f4 (OpenSpec.ofChange Rows.symbolParseSpec).bare Rows.symbolParseRow = true := by kernel_rfl
theorem inst : Tryz.f4.isInstance Tryz.prog Rows.symbolParseRow.origin Rows.symbolParseRow.targs := of_decide_eq_true (by kernel_rfl)
theorem wrap : Tryz.f4.isWrapper Tryz.prog Rows.symbolParseRow.wrapper Rows.symbolParseRow.mainSum := by
  unfold Func.isWrapper; first | (rw [if_pos (by decide +kernel)]; kernel_rfl) | (rw [if_neg (by decide +kernel)]; exact ⟨rfl, rfl⟩)
theorem said : Rows.SymbolParseSaid :=
  OpenClaim.holds_of_cond 4 Tryz.f4 rfl rfl rfl rfl rfl rfl rfl ⟨rfl, rfl, rfl, rfl, rfl⟩ rfl rfl rfl rfl rfl named Tryz.func4 facts inst wrap
    (fun os started H enc _ F => by rw [OpenClaim.pre_eq_preRow]; exact lifted os started H enc F)
end Go.Proofs.YtgdhgnhgmbkpdaaGreatDoor.symbolParse

namespace Go.Proofs.YtgdhgnhgmbkpdaaGreatDoor.symbolParse
open Go.ChangeShapes Go.WideShapes Go.ChangeAt Go.RowKit Go.Joins Go.Deep
theorem stands : (Tryz.f4.params.toList.all fun t => !Tryz.prog.wantsStandIn t) = true := by kernel_rfl
theorem looks : true = Tryz.prog.looks [] := by kernel_rfl
theorem plain (f : FuncId) (fn : Func) (hf : Tryz.pinned.checked.prog.funcNamed "quadform/quadformlaw26.SymbolParse" = some f) (hfn : Tryz.pinned.checked.prog.funcs[f]? = some fn) :
    true = Tryz.pinned.checked.prog.looks [] ∧ ∀ (j : Nat) t, fn.params[j]? = some t → Tryz.pinned.checked.prog.wantsStandIn t = false := by
  obtain rfl : f = 4 := Option.some.inj (named.symm.trans hf) |>.symm
  obtain rfl : fn = Tryz.f4 := (Option.some.inj (Tryz.func4.symm.trans hfn)).symm
  refine ⟨looks, fun j t ht => ?_⟩
  have := List.all_eq_true.1 stands t (by simpa using Array.mem_of_getElem? ht)
  exact (by simpa using this : Tryz.prog.wantsStandIn t = false)
theorem holds : Rows.SymbolParseCardSaid :=
  Claim7.holds_tied_plain_at .later [] _ _ _ _ said (fun _ h => by cases h) (by kernel_rfl) (fun _ h => by cases h) symbolParse_row_tie rfl ⟨rfl, rfl⟩ (by kernel_rfl) rfl plain (by kernel_rfl)
end Go.Proofs.YtgdhgnhgmbkpdaaGreatDoor.symbolParse

