/- By an AI agent. What is proved here: the program's leaves fulfil their contracts. -/
import Derived.Test.YtegoogghlakghaaGreatFd
import Derived.Test.YtegoogghlakghaaGreatFtb
import Derived.Test.YtegoogghlakghaaGreatFla
section
set_option linter.unusedVariables false
set_option linter.unusedSimpArgs false
set_option maxRecDepth 100000
set_option maxHeartbeats 1000000
namespace Go.Lf
open Go Go.Ev Go.Sp Go.Proofs.YtegoogghlakghaaGreat
theorem elT_ok : ∀ t T, elT t = some T → ∀ K, T K → ∃ cs, K cs := fun t T h K hK => by
  unfold elT at h
  cases hb : t.beq 52 with
  | false => rw [hb] at h; cases h
  | true => rw [hb] at h; cases h; obtain ⟨b, hb⟩ := hK; exact ⟨_, hb⟩
theorem lift_ok {f : Nat} {p : List V → Option V} (h : ∀ args v, p args = some v → Pev cx0 f args v) : ∀ args T, lift p args = some T → ∀ K, T K → ∃ v, Pev cx0 f args v ∧ K v := fun args T hT K hK => by
  unfold lift at hT
  split at hT
  · rename_i v hv; cases hT; exact ⟨v, h args v hv, hK⟩
  · cases hT
theorem tab0_ok : TabOk cx0 tab0 := TabOk.nil
theorem en0_ok : EnOk cx0 (enOf elT tab0) := enOf_ok elT_ok tab0_ok
theorem t84 (n lo hi : Int) : Pev cx0 84 [.int .i64 n, .int .i64 lo, .int .i64 hi] (.bool (inB n lo hi)) := by
  have F : ∀ Q : Rs → Prop, vc cx0 (enOf elT tab0) 40 (.pcall 84 [.int .i64 n, .int .i64 lo, .int .i64 hi]) Q = (Q (Rs.val (V.bool (decide (lo ≤ n) && decide (n ≤ hi))) Hp.empty)) := fun Q => by kernel_rfl
  refine vcP en0_ok 40 ?_
  rw [F]
  try clear F
  repeat' (first | rfl | refine needI (by first | (simp only [leB, ltB, leN, Bool.and_eq_true, decide_eq_true_eq]; omega) | simp_all [leB, ltB, leN]) ?_ | refine exI _ (by assumption) ?_ | refine brI (fun h => ?_) (fun h => ?_))
  all_goals (first | (simp only [quarC, quarM, quarX, quarY, nearC, nearM, distV, sqS, amount, Sn.neg, Sn.cs, mx, inB, Pt.valid, spanB, Box.proper, within, canV, mustV, cond_true, cond_false, *] <;> rfl) | (simp_all [quarC, quarM, quarX, quarY, nearC, nearM, distV, sqS, amount, Sn.neg, Sn.cs, mx, inB, Pt.valid, spanB, Box.proper, within, canV, mustV] <;> omega) | (congr 2; rw [Bool.eq_iff_iff]; simp [quarC, quarM, quarX, quarY, nearC, nearM, distV, sqS, amount, Sn.neg, Sn.cs, mx, inB, Pt.valid, spanB, Box.proper, within, canV, mustV]; omega) | (congr 2; rw [Bool.eq_iff_iff]; simp [quarC, quarM, quarX, quarY, nearC, nearM, distV, sqS, amount, Sn.neg, Sn.cs, mx, inB, Pt.valid, spanB, Box.proper, within, canV, mustV]))
theorem r84 : ∀ args v, p84 args = some v → Pev cx0 84 args v := by
  intro args v h
  unfold p84 at h
  split at h
  · cases h; apply t84
  · cases h
theorem q84 : ∀ args T, lift p84 args = some T → ∀ K, T K → ∃ v, Pev cx0 84 args v ∧ K v := lift_ok r84
theorem t33 (n lo hi : Int) : Pev cx0 33 [.int .i64 n, .int .i64 lo, .int .i64 hi] (.bool (inB n lo hi)) := by
  have F : ∀ Q : Rs → Prop, vc cx0 (enOf elT tab0) 40 (.pcall 33 [.int .i64 n, .int .i64 lo, .int .i64 hi]) Q = (Q (Rs.val (V.bool (decide (lo ≤ n) && decide (n ≤ hi))) Hp.empty)) := fun Q => by kernel_rfl
  refine vcP en0_ok 40 ?_
  rw [F]
  try clear F
  repeat' (first | rfl | refine needI (by first | (simp only [leB, ltB, leN, Bool.and_eq_true, decide_eq_true_eq]; omega) | simp_all [leB, ltB, leN]) ?_ | refine exI _ (by assumption) ?_ | refine brI (fun h => ?_) (fun h => ?_))
  all_goals (first | (simp only [quarC, quarM, quarX, quarY, nearC, nearM, distV, sqS, amount, Sn.neg, Sn.cs, mx, inB, Pt.valid, spanB, Box.proper, within, canV, mustV, cond_true, cond_false, *] <;> rfl) | (simp_all [quarC, quarM, quarX, quarY, nearC, nearM, distV, sqS, amount, Sn.neg, Sn.cs, mx, inB, Pt.valid, spanB, Box.proper, within, canV, mustV] <;> omega) | (congr 2; rw [Bool.eq_iff_iff]; simp [quarC, quarM, quarX, quarY, nearC, nearM, distV, sqS, amount, Sn.neg, Sn.cs, mx, inB, Pt.valid, spanB, Box.proper, within, canV, mustV]; omega) | (congr 2; rw [Bool.eq_iff_iff]; simp [quarC, quarM, quarX, quarY, nearC, nearM, distV, sqS, amount, Sn.neg, Sn.cs, mx, inB, Pt.valid, spanB, Box.proper, within, canV, mustV]))
theorem r33 : ∀ args v, p84 args = some v → Pev cx0 33 args v := by
  intro args v h
  unfold p84 at h
  split at h
  · cases h; apply t33
  · cases h
theorem q33 : ∀ args T, lift p84 args = some T → ∀ K, T K → ∃ v, Pev cx0 33 args v ∧ K v := lift_ok r33
theorem t91 (n lo hi : Int) : Pev cx0 91 [.int .i64 n, .int .i64 lo, .int .i64 hi] (.bool (inB n lo hi)) := by
  have F : ∀ Q : Rs → Prop, vc cx0 (enOf elT tab0) 40 (.pcall 91 [.int .i64 n, .int .i64 lo, .int .i64 hi]) Q = (Q (Rs.val (V.bool (decide (n ≥ lo) && decide (n ≤ hi))) Hp.empty)) := fun Q => by kernel_rfl
  refine vcP en0_ok 40 ?_
  rw [F]
  try clear F
  repeat' (first | rfl | refine needI (by first | (simp only [leB, ltB, leN, Bool.and_eq_true, decide_eq_true_eq]; omega) | simp_all [leB, ltB, leN]) ?_ | refine exI _ (by assumption) ?_ | refine brI (fun h => ?_) (fun h => ?_))
  all_goals (first | (simp only [quarC, quarM, quarX, quarY, nearC, nearM, distV, sqS, amount, Sn.neg, Sn.cs, mx, inB, Pt.valid, spanB, Box.proper, within, canV, mustV, cond_true, cond_false, *] <;> rfl) | (simp_all [quarC, quarM, quarX, quarY, nearC, nearM, distV, sqS, amount, Sn.neg, Sn.cs, mx, inB, Pt.valid, spanB, Box.proper, within, canV, mustV] <;> omega) | (congr 2; rw [Bool.eq_iff_iff]; simp [quarC, quarM, quarX, quarY, nearC, nearM, distV, sqS, amount, Sn.neg, Sn.cs, mx, inB, Pt.valid, spanB, Box.proper, within, canV, mustV]; omega) | (congr 2; rw [Bool.eq_iff_iff]; simp [quarC, quarM, quarX, quarY, nearC, nearM, distV, sqS, amount, Sn.neg, Sn.cs, mx, inB, Pt.valid, spanB, Box.proper, within, canV, mustV]))
theorem r91 : ∀ args v, p84 args = some v → Pev cx0 91 args v := by
  intro args v h
  unfold p84 at h
  split at h
  · cases h; apply t91
  · cases h
theorem q91 : ∀ args T, lift p84 args = some T → ∀ K, T K → ∃ v, Pev cx0 91 args v ∧ K v := lift_ok r91
theorem t126 (n lo hi : Int) : Pev cx0 126 [.int .i64 n, .int .i64 lo, .int .i64 hi] (.bool (inB n lo hi)) := by
  have F : ∀ Q : Rs → Prop, vc cx0 (enOf elT tab0) 40 (.pcall 126 [.int .i64 n, .int .i64 lo, .int .i64 hi]) Q = (Q (Rs.val (V.bool (decide (lo ≤ n) && decide (n ≤ hi))) Hp.empty)) := fun Q => by kernel_rfl
  refine vcP en0_ok 40 ?_
  rw [F]
  try clear F
  repeat' (first | rfl | refine needI (by first | (simp only [leB, ltB, leN, Bool.and_eq_true, decide_eq_true_eq]; omega) | simp_all [leB, ltB, leN]) ?_ | refine exI _ (by assumption) ?_ | refine brI (fun h => ?_) (fun h => ?_))
  all_goals (first | (simp only [quarC, quarM, quarX, quarY, nearC, nearM, distV, sqS, amount, Sn.neg, Sn.cs, mx, inB, Pt.valid, spanB, Box.proper, within, canV, mustV, cond_true, cond_false, *] <;> rfl) | (simp_all [quarC, quarM, quarX, quarY, nearC, nearM, distV, sqS, amount, Sn.neg, Sn.cs, mx, inB, Pt.valid, spanB, Box.proper, within, canV, mustV] <;> omega) | (congr 2; rw [Bool.eq_iff_iff]; simp [quarC, quarM, quarX, quarY, nearC, nearM, distV, sqS, amount, Sn.neg, Sn.cs, mx, inB, Pt.valid, spanB, Box.proper, within, canV, mustV]; omega) | (congr 2; rw [Bool.eq_iff_iff]; simp [quarC, quarM, quarX, quarY, nearC, nearM, distV, sqS, amount, Sn.neg, Sn.cs, mx, inB, Pt.valid, spanB, Box.proper, within, canV, mustV]))
theorem r126 : ∀ args v, p84 args = some v → Pev cx0 126 args v := by
  intro args v h
  unfold p84 at h
  split at h
  · cases h; apply t126
  · cases h
theorem q126 : ∀ args T, lift p84 args = some T → ∀ K, T K → ∃ v, Pev cx0 126 args v ∧ K v := lift_ok r126
theorem t144 (n lo hi : Int) : Pev cx0 144 [.int .i64 n, .int .i64 lo, .int .i64 hi] (.bool (inB n lo hi)) := by
  have F : ∀ Q : Rs → Prop, vc cx0 (enOf elT tab0) 40 (.pcall 144 [.int .i64 n, .int .i64 lo, .int .i64 hi]) Q = (Q (Rs.val (V.bool (decide (lo ≤ n) && decide (n ≤ hi))) Hp.empty)) := fun Q => by kernel_rfl
  refine vcP en0_ok 40 ?_
  rw [F]
  try clear F
  repeat' (first | rfl | refine needI (by first | (simp only [leB, ltB, leN, Bool.and_eq_true, decide_eq_true_eq]; omega) | simp_all [leB, ltB, leN]) ?_ | refine exI _ (by assumption) ?_ | refine brI (fun h => ?_) (fun h => ?_))
  all_goals (first | (simp only [quarC, quarM, quarX, quarY, nearC, nearM, distV, sqS, amount, Sn.neg, Sn.cs, mx, inB, Pt.valid, spanB, Box.proper, within, canV, mustV, cond_true, cond_false, *] <;> rfl) | (simp_all [quarC, quarM, quarX, quarY, nearC, nearM, distV, sqS, amount, Sn.neg, Sn.cs, mx, inB, Pt.valid, spanB, Box.proper, within, canV, mustV] <;> omega) | (congr 2; rw [Bool.eq_iff_iff]; simp [quarC, quarM, quarX, quarY, nearC, nearM, distV, sqS, amount, Sn.neg, Sn.cs, mx, inB, Pt.valid, spanB, Box.proper, within, canV, mustV]; omega) | (congr 2; rw [Bool.eq_iff_iff]; simp [quarC, quarM, quarX, quarY, nearC, nearM, distV, sqS, amount, Sn.neg, Sn.cs, mx, inB, Pt.valid, spanB, Box.proper, within, canV, mustV]))
theorem r144 : ∀ args v, p84 args = some v → Pev cx0 144 args v := by
  intro args v h
  unfold p84 at h
  split at h
  · cases h; apply t144
  · cases h
theorem q144 : ∀ args T, lift p84 args = some T → ∀ K, T K → ∃ v, Pev cx0 144 args v ∧ K v := lift_ok r144
theorem t66 (n lo hi : Int) : Pev cx0 66 [.int .i64 n, .int .i64 lo, .int .i64 hi] (.bool (inB n lo hi)) := by
  have F : ∀ Q : Rs → Prop, vc cx0 (enOf elT tab0) 40 (.pcall 66 [.int .i64 n, .int .i64 lo, .int .i64 hi]) Q = (Q (Rs.val (V.bool (decide (lo ≤ n) && decide (n ≤ hi))) Hp.empty)) := fun Q => by kernel_rfl
  refine vcP en0_ok 40 ?_
  rw [F]
  try clear F
  repeat' (first | rfl | refine needI (by first | (simp only [leB, ltB, leN, Bool.and_eq_true, decide_eq_true_eq]; omega) | simp_all [leB, ltB, leN]) ?_ | refine exI _ (by assumption) ?_ | refine brI (fun h => ?_) (fun h => ?_))
  all_goals (first | (simp only [quarC, quarM, quarX, quarY, nearC, nearM, distV, sqS, amount, Sn.neg, Sn.cs, mx, inB, Pt.valid, spanB, Box.proper, within, canV, mustV, cond_true, cond_false, *] <;> rfl) | (simp_all [quarC, quarM, quarX, quarY, nearC, nearM, distV, sqS, amount, Sn.neg, Sn.cs, mx, inB, Pt.valid, spanB, Box.proper, within, canV, mustV] <;> omega) | (congr 2; rw [Bool.eq_iff_iff]; simp [quarC, quarM, quarX, quarY, nearC, nearM, distV, sqS, amount, Sn.neg, Sn.cs, mx, inB, Pt.valid, spanB, Box.proper, within, canV, mustV]; omega) | (congr 2; rw [Bool.eq_iff_iff]; simp [quarC, quarM, quarX, quarY, nearC, nearM, distV, sqS, amount, Sn.neg, Sn.cs, mx, inB, Pt.valid, spanB, Box.proper, within, canV, mustV]))
theorem r66 : ∀ args v, p84 args = some v → Pev cx0 66 args v := by
  intro args v h
  unfold p84 at h
  split at h
  · cases h; apply t66
  · cases h
theorem q66 : ∀ args T, lift p84 args = some T → ∀ K, T K → ∃ v, Pev cx0 66 args v ∧ K v := lift_ok r66
theorem t158 (n lo hi : Int) : Pev cx0 158 [.int .i64 n, .int .i64 lo, .int .i64 hi] (.bool (inB n lo hi)) := by
  have F : ∀ Q : Rs → Prop, vc cx0 (enOf elT tab0) 40 (.pcall 158 [.int .i64 n, .int .i64 lo, .int .i64 hi]) Q = (Q (Rs.val (V.bool (decide (n ≥ lo) && decide (n ≤ hi))) Hp.empty)) := fun Q => by kernel_rfl
  refine vcP en0_ok 40 ?_
  rw [F]
  try clear F
  repeat' (first | rfl | refine needI (by first | (simp only [leB, ltB, leN, Bool.and_eq_true, decide_eq_true_eq]; omega) | simp_all [leB, ltB, leN]) ?_ | refine exI _ (by assumption) ?_ | refine brI (fun h => ?_) (fun h => ?_))
  all_goals (first | (simp only [quarC, quarM, quarX, quarY, nearC, nearM, distV, sqS, amount, Sn.neg, Sn.cs, mx, inB, Pt.valid, spanB, Box.proper, within, canV, mustV, cond_true, cond_false, *] <;> rfl) | (simp_all [quarC, quarM, quarX, quarY, nearC, nearM, distV, sqS, amount, Sn.neg, Sn.cs, mx, inB, Pt.valid, spanB, Box.proper, within, canV, mustV] <;> omega) | (congr 2; rw [Bool.eq_iff_iff]; simp [quarC, quarM, quarX, quarY, nearC, nearM, distV, sqS, amount, Sn.neg, Sn.cs, mx, inB, Pt.valid, spanB, Box.proper, within, canV, mustV]; omega) | (congr 2; rw [Bool.eq_iff_iff]; simp [quarC, quarM, quarX, quarY, nearC, nearM, distV, sqS, amount, Sn.neg, Sn.cs, mx, inB, Pt.valid, spanB, Box.proper, within, canV, mustV]))
theorem r158 : ∀ args v, p84 args = some v → Pev cx0 158 args v := by
  intro args v h
  unfold p84 at h
  split at h
  · cases h; apply t158
  · cases h
theorem q158 : ∀ args T, lift p84 args = some T → ∀ K, T K → ∃ v, Pev cx0 158 args v ∧ K v := lift_ok r158
theorem t160 (ax ay bx bz cx cy : Int) : Pev cx0 160 [.agg [.int .i64 ax, .int .i64 ay], .agg [.int .i64 bx, .int .i64 bz], .agg [.int .i64 cx, .int .i64 cy]] (.int .i64 (tw ⟨ax, ay⟩ ⟨bx, bz⟩ ⟨cx, cy⟩)) := by
  have F : ∀ Q : Rs → Prop, vc cx0 (enOf elT tab0) 40 (.pcall 160 [.agg [.int .i64 ax, .int .i64 ay], .agg [.int .i64 bx, .int .i64 bz], .agg [.int .i64 cx, .int .i64 cy]]) Q = (Q (Rs.val (V.int IntKind.i64 (w64 (w64 (w64 (bx - ax) * w64 (cy - ay)) - w64 (w64 (bz - ay) * w64 (cx - ax))))) Hp.empty)) := fun Q => by kernel_rfl
  refine vcP en0_ok 40 ?_
  rw [F]
  try clear F
  repeat' (first | rfl | refine needI (by first | (simp only [leB, ltB, leN, Bool.and_eq_true, decide_eq_true_eq]; omega) | simp_all [leB, ltB, leN]) ?_ | refine exI _ (by assumption) ?_ | refine brI (fun h => ?_) (fun h => ?_))
  all_goals (first | (simp only [quarC, quarM, quarX, quarY, nearC, nearM, distV, sqS, amount, Sn.neg, Sn.cs, mx, inB, Pt.valid, spanB, Box.proper, within, canV, mustV, cond_true, cond_false, *] <;> rfl) | (simp_all [quarC, quarM, quarX, quarY, nearC, nearM, distV, sqS, amount, Sn.neg, Sn.cs, mx, inB, Pt.valid, spanB, Box.proper, within, canV, mustV] <;> omega) | (congr 2; rw [Bool.eq_iff_iff]; simp [quarC, quarM, quarX, quarY, nearC, nearM, distV, sqS, amount, Sn.neg, Sn.cs, mx, inB, Pt.valid, spanB, Box.proper, within, canV, mustV]; omega) | (congr 2; rw [Bool.eq_iff_iff]; simp [quarC, quarM, quarX, quarY, nearC, nearM, distV, sqS, amount, Sn.neg, Sn.cs, mx, inB, Pt.valid, spanB, Box.proper, within, canV, mustV]))
theorem r160 : ∀ args v, p160 args = some v → Pev cx0 160 args v := by
  intro args v h
  unfold p160 at h
  split at h
  · cases h; apply t160
  · cases h
theorem q160 : ∀ args T, lift p160 args = some T → ∀ K, T K → ∃ v, Pev cx0 160 args v ∧ K v := lift_ok r160
theorem t120 (ax ay bx bz cx cy : Int) : Pev cx0 120 [.agg [.int .i64 ax, .int .i64 ay], .agg [.int .i64 bx, .int .i64 bz], .agg [.int .i64 cx, .int .i64 cy]] (.int .i64 (tw ⟨ax, ay⟩ ⟨bx, bz⟩ ⟨cx, cy⟩)) := by
  have F : ∀ Q : Rs → Prop, vc cx0 (enOf elT tab0) 40 (.pcall 120 [.agg [.int .i64 ax, .int .i64 ay], .agg [.int .i64 bx, .int .i64 bz], .agg [.int .i64 cx, .int .i64 cy]]) Q = (Q (Rs.val (V.int IntKind.i64 (w64 (w64 (w64 (bx - ax) * w64 (cy - ay)) - w64 (w64 (bz - ay) * w64 (cx - ax))))) Hp.empty)) := fun Q => by kernel_rfl
  refine vcP en0_ok 40 ?_
  rw [F]
  try clear F
  repeat' (first | rfl | refine needI (by first | (simp only [leB, ltB, leN, Bool.and_eq_true, decide_eq_true_eq]; omega) | simp_all [leB, ltB, leN]) ?_ | refine exI _ (by assumption) ?_ | refine brI (fun h => ?_) (fun h => ?_))
  all_goals (first | (simp only [quarC, quarM, quarX, quarY, nearC, nearM, distV, sqS, amount, Sn.neg, Sn.cs, mx, inB, Pt.valid, spanB, Box.proper, within, canV, mustV, cond_true, cond_false, *] <;> rfl) | (simp_all [quarC, quarM, quarX, quarY, nearC, nearM, distV, sqS, amount, Sn.neg, Sn.cs, mx, inB, Pt.valid, spanB, Box.proper, within, canV, mustV] <;> omega) | (congr 2; rw [Bool.eq_iff_iff]; simp [quarC, quarM, quarX, quarY, nearC, nearM, distV, sqS, amount, Sn.neg, Sn.cs, mx, inB, Pt.valid, spanB, Box.proper, within, canV, mustV]; omega) | (congr 2; rw [Bool.eq_iff_iff]; simp [quarC, quarM, quarX, quarY, nearC, nearM, distV, sqS, amount, Sn.neg, Sn.cs, mx, inB, Pt.valid, spanB, Box.proper, within, canV, mustV]))
theorem r120 : ∀ args v, p160 args = some v → Pev cx0 120 args v := by
  intro args v h
  unfold p160 at h
  split at h
  · cases h; apply t120
  · cases h
theorem q120 : ∀ args T, lift p160 args = some T → ∀ K, T K → ∃ v, Pev cx0 120 args v ∧ K v := lift_ok r120
theorem t162 (a0 a1 b0 b1 : Int) : Pev cx0 162 [.agg [.int .i64 a0, .int .i64 a1], .agg [.int .i64 b0, .int .i64 b1]] (.agg [.int .i64 (mn a0 b0), .int .i64 (mx a1 b1)]) := by
  have F : ∀ Q : Rs → Prop, vc cx0 (enOf elT tab0) 40 (.pcall 162 [.agg [.int .i64 a0, .int .i64 a1], .agg [.int .i64 b0, .int .i64 b1]]) Q = (Q (Rs.val (V.agg [V.int IntKind.i64 (mn a0 b0), V.int IntKind.i64 (mx a1 b1)]) Hp.empty)) := fun Q => by kernel_rfl
  refine vcP en0_ok 40 ?_
  rw [F]
  try clear F
  repeat' (first | rfl | refine needI (by first | (simp only [leB, ltB, leN, Bool.and_eq_true, decide_eq_true_eq]; omega) | simp_all [leB, ltB, leN]) ?_ | refine exI _ (by assumption) ?_ | refine brI (fun h => ?_) (fun h => ?_))
  all_goals (first | (simp only [quarC, quarM, quarX, quarY, nearC, nearM, distV, sqS, amount, Sn.neg, Sn.cs, mx, inB, Pt.valid, spanB, Box.proper, within, canV, mustV, cond_true, cond_false, *] <;> rfl) | (simp_all [quarC, quarM, quarX, quarY, nearC, nearM, distV, sqS, amount, Sn.neg, Sn.cs, mx, inB, Pt.valid, spanB, Box.proper, within, canV, mustV] <;> omega) | (congr 2; rw [Bool.eq_iff_iff]; simp [quarC, quarM, quarX, quarY, nearC, nearM, distV, sqS, amount, Sn.neg, Sn.cs, mx, inB, Pt.valid, spanB, Box.proper, within, canV, mustV]; omega) | (congr 2; rw [Bool.eq_iff_iff]; simp [quarC, quarM, quarX, quarY, nearC, nearM, distV, sqS, amount, Sn.neg, Sn.cs, mx, inB, Pt.valid, spanB, Box.proper, within, canV, mustV]))
theorem r162 : ∀ args v, p162 args = some v → Pev cx0 162 args v := by
  intro args v h
  unfold p162 at h
  split at h
  · cases h; apply t162
  · cases h
theorem q162 : ∀ args T, lift p162 args = some T → ∀ K, T K → ∃ v, Pev cx0 162 args v ∧ K v := lift_ok r162
theorem t88 (ax ay : Int) : Pev cx0 88 [.agg [.int .i64 ax, .int .i64 ay]] (.agg [.int .i64 ax, .int .i64 ax, .int .i64 ay, .int .i64 ay]) := by
  have F : ∀ Q : Rs → Prop, vc cx0 (enOf elT tab0) 40 (.pcall 88 [.agg [.int .i64 ax, .int .i64 ay]]) Q = (Q (Rs.val (V.agg [V.int IntKind.i64 ax, V.int IntKind.i64 ax, V.int IntKind.i64 ay, V.int IntKind.i64 ay]) Hp.empty)) := fun Q => by kernel_rfl
  refine vcP en0_ok 40 ?_
  rw [F]
  try clear F
  repeat' (first | rfl | refine needI (by first | (simp only [leB, ltB, leN, Bool.and_eq_true, decide_eq_true_eq]; omega) | simp_all [leB, ltB, leN]) ?_ | refine exI _ (by assumption) ?_ | refine brI (fun h => ?_) (fun h => ?_))
  all_goals (first | (simp only [quarC, quarM, quarX, quarY, nearC, nearM, distV, sqS, amount, Sn.neg, Sn.cs, mx, inB, Pt.valid, spanB, Box.proper, within, canV, mustV, cond_true, cond_false, *] <;> rfl) | (simp_all [quarC, quarM, quarX, quarY, nearC, nearM, distV, sqS, amount, Sn.neg, Sn.cs, mx, inB, Pt.valid, spanB, Box.proper, within, canV, mustV] <;> omega) | (congr 2; rw [Bool.eq_iff_iff]; simp [quarC, quarM, quarX, quarY, nearC, nearM, distV, sqS, amount, Sn.neg, Sn.cs, mx, inB, Pt.valid, spanB, Box.proper, within, canV, mustV]; omega) | (congr 2; rw [Bool.eq_iff_iff]; simp [quarC, quarM, quarX, quarY, nearC, nearM, distV, sqS, amount, Sn.neg, Sn.cs, mx, inB, Pt.valid, spanB, Box.proper, within, canV, mustV]))
theorem r88 : ∀ args v, p88 args = some v → Pev cx0 88 args v := by
  intro args v h
  unfold p88 at h
  split at h
  · cases h; apply t88
  · cases h
theorem q88 : ∀ args T, lift p88 args = some T → ∀ K, T K → ∃ v, Pev cx0 88 args v ∧ K v := lift_ok r88
theorem t93 (ax ay : Int) : Pev cx0 93 [.agg [.int .i64 ax, .int .i64 ay]] (.agg [.int .i64 ax, .int .i64 ax, .int .i64 ay, .int .i64 ay]) := by
  have F : ∀ Q : Rs → Prop, vc cx0 (enOf elT tab0) 40 (.pcall 93 [.agg [.int .i64 ax, .int .i64 ay]]) Q = (Q (Rs.val (V.agg [V.int IntKind.i64 ax, V.int IntKind.i64 ax, V.int IntKind.i64 ay, V.int IntKind.i64 ay]) Hp.empty)) := fun Q => by kernel_rfl
  refine vcP en0_ok 40 ?_
  rw [F]
  try clear F
  repeat' (first | rfl | refine needI (by first | (simp only [leB, ltB, leN, Bool.and_eq_true, decide_eq_true_eq]; omega) | simp_all [leB, ltB, leN]) ?_ | refine exI _ (by assumption) ?_ | refine brI (fun h => ?_) (fun h => ?_))
  all_goals (first | (simp only [quarC, quarM, quarX, quarY, nearC, nearM, distV, sqS, amount, Sn.neg, Sn.cs, mx, inB, Pt.valid, spanB, Box.proper, within, canV, mustV, cond_true, cond_false, *] <;> rfl) | (simp_all [quarC, quarM, quarX, quarY, nearC, nearM, distV, sqS, amount, Sn.neg, Sn.cs, mx, inB, Pt.valid, spanB, Box.proper, within, canV, mustV] <;> omega) | (congr 2; rw [Bool.eq_iff_iff]; simp [quarC, quarM, quarX, quarY, nearC, nearM, distV, sqS, amount, Sn.neg, Sn.cs, mx, inB, Pt.valid, spanB, Box.proper, within, canV, mustV]; omega) | (congr 2; rw [Bool.eq_iff_iff]; simp [quarC, quarM, quarX, quarY, nearC, nearM, distV, sqS, amount, Sn.neg, Sn.cs, mx, inB, Pt.valid, spanB, Box.proper, within, canV, mustV]))
theorem r93 : ∀ args v, p88 args = some v → Pev cx0 93 args v := by
  intro args v h
  unfold p88 at h
  split at h
  · cases h; apply t93
  · cases h
theorem q93 : ∀ args T, lift p88 args = some T → ∀ K, T K → ∃ v, Pev cx0 93 args v ∧ K v := lift_ok r93
theorem t105 (ax ay : Int) : Pev cx0 105 [.agg [.int .i64 ax, .int .i64 ay]] (.agg [.int .i64 ax, .int .i64 ax, .int .i64 ay, .int .i64 ay]) := by
  have F : ∀ Q : Rs → Prop, vc cx0 (enOf elT tab0) 40 (.pcall 105 [.agg [.int .i64 ax, .int .i64 ay]]) Q = (Q (Rs.val (V.agg [V.int IntKind.i64 ax, V.int IntKind.i64 ax, V.int IntKind.i64 ay, V.int IntKind.i64 ay]) Hp.empty)) := fun Q => by kernel_rfl
  refine vcP en0_ok 40 ?_
  rw [F]
  try clear F
  repeat' (first | rfl | refine needI (by first | (simp only [leB, ltB, leN, Bool.and_eq_true, decide_eq_true_eq]; omega) | simp_all [leB, ltB, leN]) ?_ | refine exI _ (by assumption) ?_ | refine brI (fun h => ?_) (fun h => ?_))
  all_goals (first | (simp only [quarC, quarM, quarX, quarY, nearC, nearM, distV, sqS, amount, Sn.neg, Sn.cs, mx, inB, Pt.valid, spanB, Box.proper, within, canV, mustV, cond_true, cond_false, *] <;> rfl) | (simp_all [quarC, quarM, quarX, quarY, nearC, nearM, distV, sqS, amount, Sn.neg, Sn.cs, mx, inB, Pt.valid, spanB, Box.proper, within, canV, mustV] <;> omega) | (congr 2; rw [Bool.eq_iff_iff]; simp [quarC, quarM, quarX, quarY, nearC, nearM, distV, sqS, amount, Sn.neg, Sn.cs, mx, inB, Pt.valid, spanB, Box.proper, within, canV, mustV]; omega) | (congr 2; rw [Bool.eq_iff_iff]; simp [quarC, quarM, quarX, quarY, nearC, nearM, distV, sqS, amount, Sn.neg, Sn.cs, mx, inB, Pt.valid, spanB, Box.proper, within, canV, mustV]))
theorem r105 : ∀ args v, p88 args = some v → Pev cx0 105 args v := by
  intro args v h
  unfold p88 at h
  split at h
  · cases h; apply t105
  · cases h
theorem q105 : ∀ args T, lift p88 args = some T → ∀ K, T K → ∃ v, Pev cx0 105 args v ∧ K v := lift_ok r105
theorem t319 (a0 a1 b0 b1 : Int) : Pev cx0 319 [.agg [.int .i64 a0, .int .i64 a1], .agg [.int .i64 b0, .int .i64 b1]] (.agg (less ⟨a0, a1⟩ ⟨b0, b1⟩).cs) := by
  have F : ∀ Q : Rs → Prop, vc cx0 (enOf elT tab0) 40 (.pcall 319 [.agg [.int .i64 a0, .int .i64 a1], .agg [.int .i64 b0, .int .i64 b1]]) Q = (Q (Rs.val (V.agg [V.int IntKind.i64 (w64 (a0 - b1)), V.int IntKind.i64 (w64 (a1 - b0))]) Hp.empty)) := fun Q => by kernel_rfl
  refine vcP en0_ok 40 ?_
  rw [F]
  try clear F
  repeat' (first | rfl | refine needI (by first | (simp only [leB, ltB, leN, Bool.and_eq_true, decide_eq_true_eq]; omega) | simp_all [leB, ltB, leN]) ?_ | refine exI _ (by assumption) ?_ | refine brI (fun h => ?_) (fun h => ?_))
  all_goals (first | (simp only [quarC, quarM, quarX, quarY, nearC, nearM, distV, sqS, amount, Sn.neg, Sn.cs, mx, inB, Pt.valid, spanB, Box.proper, within, canV, mustV, cond_true, cond_false, *] <;> rfl) | (simp_all [quarC, quarM, quarX, quarY, nearC, nearM, distV, sqS, amount, Sn.neg, Sn.cs, mx, inB, Pt.valid, spanB, Box.proper, within, canV, mustV] <;> omega) | (congr 2; rw [Bool.eq_iff_iff]; simp [quarC, quarM, quarX, quarY, nearC, nearM, distV, sqS, amount, Sn.neg, Sn.cs, mx, inB, Pt.valid, spanB, Box.proper, within, canV, mustV]; omega) | (congr 2; rw [Bool.eq_iff_iff]; simp [quarC, quarM, quarX, quarY, nearC, nearM, distV, sqS, amount, Sn.neg, Sn.cs, mx, inB, Pt.valid, spanB, Box.proper, within, canV, mustV]))
theorem r319 : ∀ args v, p319 args = some v → Pev cx0 319 args v := by
  intro args v h
  unfold p319 at h
  split at h
  · cases h; apply t319
  · cases h
theorem q319 : ∀ args T, lift p319 args = some T → ∀ K, T K → ∃ v, Pev cx0 319 args v ∧ K v := lift_ok r319
theorem t289 (a0 a1 : Int) : Pev cx0 289 [.agg [.int .i64 a0, .int .i64 a1]] (.agg (amount ⟨a0, a1⟩).cs) := by
  have F : ∀ Q : Rs → Prop, vc cx0 (enOf elT tab0) 40 (.pcall 289 [.agg [.int .i64 a0, .int .i64 a1]]) Q = (brW (decide (a0 ≥ 0)) (Q (Rs.val (V.agg [V.int IntKind.i64 a0, V.int IntKind.i64 a1]) Hp.empty)) (brW (decide (a1 ≤ 0)) (Q (Rs.val (V.agg [V.int IntKind.i64 (w64 (0 - a1)), V.int IntKind.i64 (w64 (0 - a0))]) Hp.empty)) (Q (Rs.val (V.agg [V.int IntKind.i64 0, V.int IntKind.i64 (mx (w64 (0 - a0)) a1)]) Hp.empty)))) := fun Q => by kernel_rfl
  refine vcP en0_ok 40 ?_
  rw [F]
  try clear F
  repeat' (first | rfl | refine needI (by first | (simp only [leB, ltB, leN, Bool.and_eq_true, decide_eq_true_eq]; omega) | simp_all [leB, ltB, leN]) ?_ | refine exI _ (by assumption) ?_ | refine brI (fun h => ?_) (fun h => ?_))
  all_goals (first | (simp only [quarC, quarM, quarX, quarY, nearC, nearM, distV, sqS, amount, Sn.neg, Sn.cs, mx, inB, Pt.valid, spanB, Box.proper, within, canV, mustV, cond_true, cond_false, *] <;> rfl) | (simp_all [quarC, quarM, quarX, quarY, nearC, nearM, distV, sqS, amount, Sn.neg, Sn.cs, mx, inB, Pt.valid, spanB, Box.proper, within, canV, mustV] <;> omega) | (congr 2; rw [Bool.eq_iff_iff]; simp [quarC, quarM, quarX, quarY, nearC, nearM, distV, sqS, amount, Sn.neg, Sn.cs, mx, inB, Pt.valid, spanB, Box.proper, within, canV, mustV]; omega) | (congr 2; rw [Bool.eq_iff_iff]; simp [quarC, quarM, quarX, quarY, nearC, nearM, distV, sqS, amount, Sn.neg, Sn.cs, mx, inB, Pt.valid, spanB, Box.proper, within, canV, mustV]))
theorem r289 : ∀ args v, p289 args = some v → Pev cx0 289 args v := by
  intro args v h
  unfold p289 at h
  split at h
  · cases h; apply t289
  · cases h
theorem q289 : ∀ args T, lift p289 args = some T → ∀ K, T K → ∃ v, Pev cx0 289 args v ∧ K v := lift_ok r289
theorem t100 (a0 a1 : Int) : Pev cx0 100 [.agg [.int .i64 a0, .int .i64 a1]] (.int .i64 (Sn.size ⟨a0, a1⟩)) := by
  have F : ∀ Q : Rs → Prop, vc cx0 (enOf elT tab0) 40 (.pcall 100 [.agg [.int .i64 a0, .int .i64 a1]]) Q = (Q (Rs.val (V.int IntKind.i64 (w64 (w64 (a1 - a0) + 1))) Hp.empty)) := fun Q => by kernel_rfl
  refine vcP en0_ok 40 ?_
  rw [F]
  try clear F
  repeat' (first | rfl | refine needI (by first | (simp only [leB, ltB, leN, Bool.and_eq_true, decide_eq_true_eq]; omega) | simp_all [leB, ltB, leN]) ?_ | refine exI _ (by assumption) ?_ | refine brI (fun h => ?_) (fun h => ?_))
  all_goals (first | (simp only [quarC, quarM, quarX, quarY, nearC, nearM, distV, sqS, amount, Sn.neg, Sn.cs, mx, inB, Pt.valid, spanB, Box.proper, within, canV, mustV, cond_true, cond_false, *] <;> rfl) | (simp_all [quarC, quarM, quarX, quarY, nearC, nearM, distV, sqS, amount, Sn.neg, Sn.cs, mx, inB, Pt.valid, spanB, Box.proper, within, canV, mustV] <;> omega) | (congr 2; rw [Bool.eq_iff_iff]; simp [quarC, quarM, quarX, quarY, nearC, nearM, distV, sqS, amount, Sn.neg, Sn.cs, mx, inB, Pt.valid, spanB, Box.proper, within, canV, mustV]; omega) | (congr 2; rw [Bool.eq_iff_iff]; simp [quarC, quarM, quarX, quarY, nearC, nearM, distV, sqS, amount, Sn.neg, Sn.cs, mx, inB, Pt.valid, spanB, Box.proper, within, canV, mustV]))
theorem r100 : ∀ args v, p100 args = some v → Pev cx0 100 args v := by
  intro args v h
  unfold p100 at h
  split at h
  · cases h; apply t100
  · cases h
theorem q100 : ∀ args T, lift p100 args = some T → ∀ K, T K → ∃ v, Pev cx0 100 args v ∧ K v := lift_ok r100
theorem t324 (a0 a1 b0 b1 : Int) : Pev cx0 324 [.agg [.int .i64 a0, .int .i64 a1], .agg [.int .i64 b0, .int .i64 b1]] (.agg [.int .i64 (mx a0 b0), .int .i64 (mn a1 b1)]) := by
  have F : ∀ Q : Rs → Prop, vc cx0 (enOf elT tab0) 40 (.pcall 324 [.agg [.int .i64 a0, .int .i64 a1], .agg [.int .i64 b0, .int .i64 b1]]) Q = (Q (Rs.val (V.agg [V.int IntKind.i64 (mx a0 b0), V.int IntKind.i64 (mn a1 b1)]) Hp.empty)) := fun Q => by kernel_rfl
  refine vcP en0_ok 40 ?_
  rw [F]
  try clear F
  repeat' (first | rfl | refine needI (by first | (simp only [leB, ltB, leN, Bool.and_eq_true, decide_eq_true_eq]; omega) | simp_all [leB, ltB, leN]) ?_ | refine exI _ (by assumption) ?_ | refine brI (fun h => ?_) (fun h => ?_))
  all_goals (first | (simp only [quarC, quarM, quarX, quarY, nearC, nearM, distV, sqS, amount, Sn.neg, Sn.cs, mx, inB, Pt.valid, spanB, Box.proper, within, canV, mustV, cond_true, cond_false, *] <;> rfl) | (simp_all [quarC, quarM, quarX, quarY, nearC, nearM, distV, sqS, amount, Sn.neg, Sn.cs, mx, inB, Pt.valid, spanB, Box.proper, within, canV, mustV] <;> omega) | (congr 2; rw [Bool.eq_iff_iff]; simp [quarC, quarM, quarX, quarY, nearC, nearM, distV, sqS, amount, Sn.neg, Sn.cs, mx, inB, Pt.valid, spanB, Box.proper, within, canV, mustV]; omega) | (congr 2; rw [Bool.eq_iff_iff]; simp [quarC, quarM, quarX, quarY, nearC, nearM, distV, sqS, amount, Sn.neg, Sn.cs, mx, inB, Pt.valid, spanB, Box.proper, within, canV, mustV]))
theorem r324 : ∀ args v, p324 args = some v → Pev cx0 324 args v := by
  intro args v h
  unfold p324 at h
  split at h
  · cases h; apply t324
  · cases h
theorem q324 : ∀ args T, lift p324 args = some T → ∀ K, T K → ∃ v, Pev cx0 324 args v ∧ K v := lift_ok r324
theorem t325 (a0 a1 : Int) : Pev cx0 325 [.agg [.int .i64 a0, .int .i64 a1]] (.bool (decide (a0 > a1))) := by
  have F : ∀ Q : Rs → Prop, vc cx0 (enOf elT tab0) 40 (.pcall 325 [.agg [.int .i64 a0, .int .i64 a1]]) Q = (Q (Rs.val (V.bool (decide (a0 > a1))) Hp.empty)) := fun Q => by kernel_rfl
  refine vcP en0_ok 40 ?_
  rw [F]
  try clear F
  repeat' (first | rfl | refine needI (by first | (simp only [leB, ltB, leN, Bool.and_eq_true, decide_eq_true_eq]; omega) | simp_all [leB, ltB, leN]) ?_ | refine exI _ (by assumption) ?_ | refine brI (fun h => ?_) (fun h => ?_))
  all_goals (first | (simp only [quarC, quarM, quarX, quarY, nearC, nearM, distV, sqS, amount, Sn.neg, Sn.cs, mx, inB, Pt.valid, spanB, Box.proper, within, canV, mustV, cond_true, cond_false, *] <;> rfl) | (simp_all [quarC, quarM, quarX, quarY, nearC, nearM, distV, sqS, amount, Sn.neg, Sn.cs, mx, inB, Pt.valid, spanB, Box.proper, within, canV, mustV] <;> omega) | (congr 2; rw [Bool.eq_iff_iff]; simp [quarC, quarM, quarX, quarY, nearC, nearM, distV, sqS, amount, Sn.neg, Sn.cs, mx, inB, Pt.valid, spanB, Box.proper, within, canV, mustV]; omega) | (congr 2; rw [Bool.eq_iff_iff]; simp [quarC, quarM, quarX, quarY, nearC, nearM, distV, sqS, amount, Sn.neg, Sn.cs, mx, inB, Pt.valid, spanB, Box.proper, within, canV, mustV]))
theorem r325 : ∀ args v, p325 args = some v → Pev cx0 325 args v := by
  intro args v h
  unfold p325 at h
  split at h
  · cases h; apply t325
  · cases h
theorem q325 : ∀ args T, lift p325 args = some T → ∀ K, T K → ∃ v, Pev cx0 325 args v ∧ K v := lift_ok r325
theorem t218 (a0 a1 lo hi : Int) : Pev cx0 218 [.agg [.int .i64 a0, .int .i64 a1], .int .i64 lo, .int .i64 hi] (.bool (within ⟨a0, a1⟩ lo hi)) := by
  have F : ∀ Q : Rs → Prop, vc cx0 (enOf elT tab0) 40 (.pcall 218 [.agg [.int .i64 a0, .int .i64 a1], .int .i64 lo, .int .i64 hi]) Q = (Q (Rs.val (V.bool (decide (lo ≤ a0) && decide (a0 ≤ a1) && decide (a1 ≤ hi))) Hp.empty)) := fun Q => by kernel_rfl
  refine vcP en0_ok 40 ?_
  rw [F]
  try clear F
  repeat' (first | rfl | refine needI (by first | (simp only [leB, ltB, leN, Bool.and_eq_true, decide_eq_true_eq]; omega) | simp_all [leB, ltB, leN]) ?_ | refine exI _ (by assumption) ?_ | refine brI (fun h => ?_) (fun h => ?_))
  all_goals (first | (simp only [quarC, quarM, quarX, quarY, nearC, nearM, distV, sqS, amount, Sn.neg, Sn.cs, mx, inB, Pt.valid, spanB, Box.proper, within, canV, mustV, cond_true, cond_false, *] <;> rfl) | (simp_all [quarC, quarM, quarX, quarY, nearC, nearM, distV, sqS, amount, Sn.neg, Sn.cs, mx, inB, Pt.valid, spanB, Box.proper, within, canV, mustV] <;> omega) | (congr 2; rw [Bool.eq_iff_iff]; simp [quarC, quarM, quarX, quarY, nearC, nearM, distV, sqS, amount, Sn.neg, Sn.cs, mx, inB, Pt.valid, spanB, Box.proper, within, canV, mustV]; omega) | (congr 2; rw [Bool.eq_iff_iff]; simp [quarC, quarM, quarX, quarY, nearC, nearM, distV, sqS, amount, Sn.neg, Sn.cs, mx, inB, Pt.valid, spanB, Box.proper, within, canV, mustV]))
theorem r218 : ∀ args v, p218 args = some v → Pev cx0 218 args v := by
  intro args v h
  unfold p218 at h
  split at h
  · cases h; apply t218
  · cases h
theorem q218 : ∀ args T, lift p218 args = some T → ∀ K, T K → ∃ v, Pev cx0 218 args v ∧ K v := lift_ok r218
theorem t67 (a0 a1 lo hi : Int) : Pev cx0 67 [.agg [.int .i64 a0, .int .i64 a1], .int .i64 lo, .int .i64 hi] (.bool (within ⟨a0, a1⟩ lo hi)) := by
  have F : ∀ Q : Rs → Prop, vc cx0 (enOf elT tab0) 40 (.pcall 67 [.agg [.int .i64 a0, .int .i64 a1], .int .i64 lo, .int .i64 hi]) Q = (Q (Rs.val (V.bool (decide (lo ≤ a0) && decide (a0 ≤ a1) && decide (a1 ≤ hi))) Hp.empty)) := fun Q => by kernel_rfl
  refine vcP en0_ok 40 ?_
  rw [F]
  try clear F
  repeat' (first | rfl | refine needI (by first | (simp only [leB, ltB, leN, Bool.and_eq_true, decide_eq_true_eq]; omega) | simp_all [leB, ltB, leN]) ?_ | refine exI _ (by assumption) ?_ | refine brI (fun h => ?_) (fun h => ?_))
  all_goals (first | (simp only [quarC, quarM, quarX, quarY, nearC, nearM, distV, sqS, amount, Sn.neg, Sn.cs, mx, inB, Pt.valid, spanB, Box.proper, within, canV, mustV, cond_true, cond_false, *] <;> rfl) | (simp_all [quarC, quarM, quarX, quarY, nearC, nearM, distV, sqS, amount, Sn.neg, Sn.cs, mx, inB, Pt.valid, spanB, Box.proper, within, canV, mustV] <;> omega) | (congr 2; rw [Bool.eq_iff_iff]; simp [quarC, quarM, quarX, quarY, nearC, nearM, distV, sqS, amount, Sn.neg, Sn.cs, mx, inB, Pt.valid, spanB, Box.proper, within, canV, mustV]; omega) | (congr 2; rw [Bool.eq_iff_iff]; simp [quarC, quarM, quarX, quarY, nearC, nearM, distV, sqS, amount, Sn.neg, Sn.cs, mx, inB, Pt.valid, spanB, Box.proper, within, canV, mustV]))
theorem r67 : ∀ args v, p218 args = some v → Pev cx0 67 args v := by
  intro args v h
  unfold p218 at h
  split at h
  · cases h; apply t67
  · cases h
theorem q67 : ∀ args T, lift p218 args = some T → ∀ K, T K → ∃ v, Pev cx0 67 args v ∧ K v := lift_ok r67
theorem t290 (id kd : Int) (ng : Bool) (fa fb fc flo fhi fq : Int) (β : Bool) (cl : Bool) (es : List (List V)) (v0 v1 : Int) : Pev cx0 290 [.agg [.int .i64 id, .int .i64 kd, .bool ng, .int .i64 fa, .int .i64 fb, .int .i64 fc, .int .i64 flo, .int .i64 fhi, .int .i64 fq, .imm β 4 cl es], .agg [.int .i64 v0, .int .i64 v1]] (.tup [.bool (canV ⟨v0, v1⟩ ⟨flo, fhi⟩), .bool (mustV ⟨v0, v1⟩ ⟨flo, fhi⟩)]) := by
  have F : ∀ Q : Rs → Prop, vc cx0 (enOf elT tab0) 40 (.pcall 290 [.agg [.int .i64 id, .int .i64 kd, .bool ng, .int .i64 fa, .int .i64 fb, .int .i64 fc, .int .i64 flo, .int .i64 fhi, .int .i64 fq, .imm β 4 cl es], .agg [.int .i64 v0, .int .i64 v1]]) Q = (brW (decide (v0 ≤ fhi)) (brW (decide (flo ≤ v0)) (Q (Rs.val (V.tup [V.bool (decide (flo ≤ v1)), V.bool (decide (v1 ≤ fhi))]) Hp.empty)) (Q (Rs.val (V.tup [V.bool (decide (flo ≤ v1)), V.bool false]) Hp.empty))) (brW (decide (flo ≤ v0)) (Q (Rs.val (V.tup [V.bool false, V.bool (decide (v1 ≤ fhi))]) Hp.empty)) (Q (Rs.val (V.tup [V.bool false, V.bool false]) Hp.empty)))) := fun Q => by kernel_rfl
  refine vcP en0_ok 40 ?_
  rw [F]
  try clear F
  repeat' (first | rfl | refine needI (by first | (simp only [leB, ltB, leN, Bool.and_eq_true, decide_eq_true_eq]; omega) | simp_all [leB, ltB, leN]) ?_ | refine exI _ (by assumption) ?_ | refine brI (fun h => ?_) (fun h => ?_))
  all_goals (first | (simp only [quarC, quarM, quarX, quarY, nearC, nearM, distV, sqS, amount, Sn.neg, Sn.cs, mx, inB, Pt.valid, spanB, Box.proper, within, canV, mustV, cond_true, cond_false, *] <;> rfl) | (simp_all [quarC, quarM, quarX, quarY, nearC, nearM, distV, sqS, amount, Sn.neg, Sn.cs, mx, inB, Pt.valid, spanB, Box.proper, within, canV, mustV] <;> omega) | (congr 2; rw [Bool.eq_iff_iff]; simp [quarC, quarM, quarX, quarY, nearC, nearM, distV, sqS, amount, Sn.neg, Sn.cs, mx, inB, Pt.valid, spanB, Box.proper, within, canV, mustV]; omega) | (congr 2; rw [Bool.eq_iff_iff]; simp [quarC, quarM, quarX, quarY, nearC, nearM, distV, sqS, amount, Sn.neg, Sn.cs, mx, inB, Pt.valid, spanB, Box.proper, within, canV, mustV]))
theorem r290 : ∀ args v, p290 args = some v → Pev cx0 290 args v := by
  intro args v h
  unfold p290 at h
  split at h
  · cases h; apply t290
  · cases h
theorem q290 : ∀ args T, lift p290 args = some T → ∀ K, T K → ∃ v, Pev cx0 290 args v ∧ K v := lift_ok r290
theorem tab1_ok : TabOk cx0 tab1 := by
  have e : tab1 = [(33, (lift p84)), (66, (lift p84)), (67, (lift p218)), (84, (lift p84)), (88, (lift p88)), (91, (lift p84)), (93, (lift p88)), (100, (lift p100)), (105, (lift p88)), (120, (lift p160)), (126, (lift p84)), (144, (lift p84)), (158, (lift p84)), (160, (lift p160)), (162, (lift p162)), (218, (lift p218)), (289, (lift p289)), (290, (lift p290)), (319, (lift p319)), (324, (lift p324)), (325, (lift p325))].foldl (fun t x => t.set x.1 x.2) .nil := by kernel_rfl
  rw [e]
  refine TabOk.all fun x hx => ?_
  simp only [List.mem_cons, List.not_mem_nil, or_false] at hx
  rcases hx with rfl | rfl | rfl | rfl | rfl | rfl | rfl | rfl | rfl | rfl | rfl | rfl | rfl | rfl | rfl | rfl | rfl | rfl | rfl | rfl | rfl
  · exact q33
  · exact q66
  · exact q67
  · exact q84
  · exact q88
  · exact q91
  · exact q93
  · exact q100
  · exact q105
  · exact q120
  · exact q126
  · exact q144
  · exact q158
  · exact q160
  · exact q162
  · exact q218
  · exact q289
  · exact q290
  · exact q319
  · exact q324
  · exact q325
theorem en1_ok : EnOk cx0 (enOf elT tab1) := enOf_ok elT_ok tab1_ok
theorem t34 (ax ay : Int) : Pev cx0 34 [.agg [.int .i64 ax, .int .i64 ay]] (.bool (Pt.valid ⟨ax, ay⟩)) := by
  have F : ∀ Q : Rs → Prop, vc cx0 (enOf elT tab1) 40 (.pcall 34 [.agg [.int .i64 ax, .int .i64 ay]]) Q = (brW (inB ax (-1048576) 1048576) (Q (Rs.val (V.bool (inB ay (-1048576) 1048576)) Hp.empty)) (Q (Rs.val (V.bool false) Hp.empty))) := fun Q => by kernel_rfl
  refine vcP en1_ok 40 ?_
  rw [F]
  try clear F
  repeat' (first | rfl | refine needI (by first | (simp only [leB, ltB, leN, Bool.and_eq_true, decide_eq_true_eq]; omega) | simp_all [leB, ltB, leN]) ?_ | refine exI _ (by assumption) ?_ | refine brI (fun h => ?_) (fun h => ?_))
  all_goals (first | (simp only [quarC, quarM, quarX, quarY, nearC, nearM, distV, sqS, amount, Sn.neg, Sn.cs, mx, inB, Pt.valid, spanB, Box.proper, within, canV, mustV, cond_true, cond_false, *] <;> rfl) | (simp_all [quarC, quarM, quarX, quarY, nearC, nearM, distV, sqS, amount, Sn.neg, Sn.cs, mx, inB, Pt.valid, spanB, Box.proper, within, canV, mustV] <;> omega) | (congr 2; rw [Bool.eq_iff_iff]; simp [quarC, quarM, quarX, quarY, nearC, nearM, distV, sqS, amount, Sn.neg, Sn.cs, mx, inB, Pt.valid, spanB, Box.proper, within, canV, mustV]; omega) | (congr 2; rw [Bool.eq_iff_iff]; simp [quarC, quarM, quarX, quarY, nearC, nearM, distV, sqS, amount, Sn.neg, Sn.cs, mx, inB, Pt.valid, spanB, Box.proper, within, canV, mustV]))
theorem r34 : ∀ args v, p34 args = some v → Pev cx0 34 args v := by
  intro args v h
  unfold p34 at h
  split at h
  · cases h; apply t34
  · cases h
theorem q34 : ∀ args T, lift p34 args = some T → ∀ K, T K → ∃ v, Pev cx0 34 args v ∧ K v := lift_ok r34
theorem t39 (ax ay : Int) : Pev cx0 39 [.agg [.int .i64 ax, .int .i64 ay]] (.bool (Pt.valid ⟨ax, ay⟩)) := by
  have F : ∀ Q : Rs → Prop, vc cx0 (enOf elT tab1) 40 (.pcall 39 [.agg [.int .i64 ax, .int .i64 ay]]) Q = (Q (Rs.val (V.bool (inB ax (-1048576) 1048576 && inB ay (-1048576) 1048576)) Hp.empty)) := fun Q => by kernel_rfl
  refine vcP en1_ok 40 ?_
  rw [F]
  try clear F
  repeat' (first | rfl | refine needI (by first | (simp only [leB, ltB, leN, Bool.and_eq_true, decide_eq_true_eq]; omega) | simp_all [leB, ltB, leN]) ?_ | refine exI _ (by assumption) ?_ | refine brI (fun h => ?_) (fun h => ?_))
  all_goals (first | (simp only [quarC, quarM, quarX, quarY, nearC, nearM, distV, sqS, amount, Sn.neg, Sn.cs, mx, inB, Pt.valid, spanB, Box.proper, within, canV, mustV, cond_true, cond_false, *] <;> rfl) | (simp_all [quarC, quarM, quarX, quarY, nearC, nearM, distV, sqS, amount, Sn.neg, Sn.cs, mx, inB, Pt.valid, spanB, Box.proper, within, canV, mustV] <;> omega) | (congr 2; rw [Bool.eq_iff_iff]; simp [quarC, quarM, quarX, quarY, nearC, nearM, distV, sqS, amount, Sn.neg, Sn.cs, mx, inB, Pt.valid, spanB, Box.proper, within, canV, mustV]; omega) | (congr 2; rw [Bool.eq_iff_iff]; simp [quarC, quarM, quarX, quarY, nearC, nearM, distV, sqS, amount, Sn.neg, Sn.cs, mx, inB, Pt.valid, spanB, Box.proper, within, canV, mustV]))
theorem r39 : ∀ args v, p34 args = some v → Pev cx0 39 args v := by
  intro args v h
  unfold p34 at h
  split at h
  · cases h; apply t39
  · cases h
theorem q39 : ∀ args T, lift p34 args = some T → ∀ K, T K → ∃ v, Pev cx0 39 args v ∧ K v := lift_ok r39
theorem t86 (a0 a1 : Int) : Pev cx0 86 [.agg [.int .i64 a0, .int .i64 a1]] (.bool (spanB a0 a1)) := by
  have F : ∀ Q : Rs → Prop, vc cx0 (enOf elT tab1) 40 (.pcall 86 [.agg [.int .i64 a0, .int .i64 a1]]) Q = (brW (inB a0 (-1048576) 1048576) (Q (Rs.val (V.bool (inB a1 a0 1048576)) Hp.empty)) (Q (Rs.val (V.bool false) Hp.empty))) := fun Q => by kernel_rfl
  refine vcP en1_ok 40 ?_
  rw [F]
  try clear F
  repeat' (first | rfl | refine needI (by first | (simp only [leB, ltB, leN, Bool.and_eq_true, decide_eq_true_eq]; omega) | simp_all [leB, ltB, leN]) ?_ | refine exI _ (by assumption) ?_ | refine brI (fun h => ?_) (fun h => ?_))
  all_goals (first | (simp only [quarC, quarM, quarX, quarY, nearC, nearM, distV, sqS, amount, Sn.neg, Sn.cs, mx, inB, Pt.valid, spanB, Box.proper, within, canV, mustV, cond_true, cond_false, *] <;> rfl) | (simp_all [quarC, quarM, quarX, quarY, nearC, nearM, distV, sqS, amount, Sn.neg, Sn.cs, mx, inB, Pt.valid, spanB, Box.proper, within, canV, mustV] <;> omega) | (congr 2; rw [Bool.eq_iff_iff]; simp [quarC, quarM, quarX, quarY, nearC, nearM, distV, sqS, amount, Sn.neg, Sn.cs, mx, inB, Pt.valid, spanB, Box.proper, within, canV, mustV]; omega) | (congr 2; rw [Bool.eq_iff_iff]; simp [quarC, quarM, quarX, quarY, nearC, nearM, distV, sqS, amount, Sn.neg, Sn.cs, mx, inB, Pt.valid, spanB, Box.proper, within, canV, mustV]))
theorem r86 : ∀ args v, p86 args = some v → Pev cx0 86 args v := by
  intro args v h
  unfold p86 at h
  split at h
  · cases h; apply t86
  · cases h
theorem q86 : ∀ args T, lift p86 args = some T → ∀ K, T K → ∃ v, Pev cx0 86 args v ∧ K v := lift_ok r86
theorem t168 (a0 a1 a2 a3 : Int) : Pev cx0 168 [.agg [.int .i64 a0, .int .i64 a1, .int .i64 a2, .int .i64 a3]] (.bool (within ⟨a0, a1⟩ (-1048576) 1048576 && within ⟨a2, a3⟩ (-1048576) 1048576)) := by
  have F : ∀ Q : Rs → Prop, vc cx0 (enOf elT tab1) 40 (.pcall 168 [.agg [.int .i64 a0, .int .i64 a1, .int .i64 a2, .int .i64 a3]]) Q = (brW (within (Sn.mk a0 a1) (-1048576) 1048576) (Q (Rs.val (V.bool (within (Sn.mk a2 a3) (-1048576) 1048576)) Hp.empty)) (Q (Rs.val (V.bool false) Hp.empty))) := fun Q => by kernel_rfl
  refine vcP en1_ok 40 ?_
  rw [F]
  try clear F
  repeat' (first | rfl | refine needI (by first | (simp only [leB, ltB, leN, Bool.and_eq_true, decide_eq_true_eq]; omega) | simp_all [leB, ltB, leN]) ?_ | refine exI _ (by assumption) ?_ | refine brI (fun h => ?_) (fun h => ?_))
  all_goals (first | (simp only [quarC, quarM, quarX, quarY, nearC, nearM, distV, sqS, amount, Sn.neg, Sn.cs, mx, inB, Pt.valid, spanB, Box.proper, within, canV, mustV, cond_true, cond_false, *] <;> rfl) | (simp_all [quarC, quarM, quarX, quarY, nearC, nearM, distV, sqS, amount, Sn.neg, Sn.cs, mx, inB, Pt.valid, spanB, Box.proper, within, canV, mustV] <;> omega) | (congr 2; rw [Bool.eq_iff_iff]; simp [quarC, quarM, quarX, quarY, nearC, nearM, distV, sqS, amount, Sn.neg, Sn.cs, mx, inB, Pt.valid, spanB, Box.proper, within, canV, mustV]; omega) | (congr 2; rw [Bool.eq_iff_iff]; simp [quarC, quarM, quarX, quarY, nearC, nearM, distV, sqS, amount, Sn.neg, Sn.cs, mx, inB, Pt.valid, spanB, Box.proper, within, canV, mustV]))
theorem r168 : ∀ args v, p168 args = some v → Pev cx0 168 args v := by
  intro args v h
  unfold p168 at h
  split at h
  · cases h; apply t168
  · cases h
theorem q168 : ∀ args T, lift p168 args = some T → ∀ K, T K → ∃ v, Pev cx0 168 args v ∧ K v := lift_ok r168
theorem tab2_ok : TabOk cx0 tab2 := by
  have e : tab2 = [(33, (lift p84)), (34, (lift p34)), (39, (lift p34)), (66, (lift p84)), (67, (lift p218)), (84, (lift p84)), (86, (lift p86)), (88, (lift p88)), (91, (lift p84)), (93, (lift p88)), (100, (lift p100)), (105, (lift p88)), (120, (lift p160)), (126, (lift p84)), (144, (lift p84)), (158, (lift p84)), (160, (lift p160)), (162, (lift p162)), (168, (lift p168)), (218, (lift p218)), (289, (lift p289)), (290, (lift p290)), (319, (lift p319)), (324, (lift p324)), (325, (lift p325))].foldl (fun t x => t.set x.1 x.2) .nil := by kernel_rfl
  rw [e]
  refine TabOk.all fun x hx => ?_
  simp only [List.mem_cons, List.not_mem_nil, or_false] at hx
  rcases hx with rfl | rfl | rfl | rfl | rfl | rfl | rfl | rfl | rfl | rfl | rfl | rfl | rfl | rfl | rfl | rfl | rfl | rfl | rfl | rfl | rfl | rfl | rfl | rfl | rfl
  · exact q33
  · exact q34
  · exact q39
  · exact q66
  · exact q67
  · exact q84
  · exact q86
  · exact q88
  · exact q91
  · exact q93
  · exact q100
  · exact q105
  · exact q120
  · exact q126
  · exact q144
  · exact q158
  · exact q160
  · exact q162
  · exact q168
  · exact q218
  · exact q289
  · exact q290
  · exact q319
  · exact q324
  · exact q325
theorem en2_ok : EnOk cx0 (enOf elT tab2) := enOf_ok elT_ok tab2_ok
theorem t37 (a0 a1 a2 a3 : Int) : Pev cx0 37 [.agg [.int .i64 a0, .int .i64 a1, .int .i64 a2, .int .i64 a3]] (.bool (Box.proper ⟨a0, a1, a2, a3⟩)) := by
  have F : ∀ Q : Rs → Prop, vc cx0 (enOf elT tab2) 40 (.pcall 37 [.agg [.int .i64 a0, .int .i64 a1, .int .i64 a2, .int .i64 a3]]) Q = (brW (spanB a0 a1) (Q (Rs.val (V.bool (spanB a2 a3)) Hp.empty)) (Q (Rs.val (V.bool false) Hp.empty))) := fun Q => by kernel_rfl
  refine vcP en2_ok 40 ?_
  rw [F]
  try clear F
  repeat' (first | rfl | refine needI (by first | (simp only [leB, ltB, leN, Bool.and_eq_true, decide_eq_true_eq]; omega) | simp_all [leB, ltB, leN]) ?_ | refine exI _ (by assumption) ?_ | refine brI (fun h => ?_) (fun h => ?_))
  all_goals (first | (simp only [quarC, quarM, quarX, quarY, nearC, nearM, distV, sqS, amount, Sn.neg, Sn.cs, mx, inB, Pt.valid, spanB, Box.proper, within, canV, mustV, cond_true, cond_false, *] <;> rfl) | (simp_all [quarC, quarM, quarX, quarY, nearC, nearM, distV, sqS, amount, Sn.neg, Sn.cs, mx, inB, Pt.valid, spanB, Box.proper, within, canV, mustV] <;> omega) | (congr 2; rw [Bool.eq_iff_iff]; simp [quarC, quarM, quarX, quarY, nearC, nearM, distV, sqS, amount, Sn.neg, Sn.cs, mx, inB, Pt.valid, spanB, Box.proper, within, canV, mustV]; omega) | (congr 2; rw [Bool.eq_iff_iff]; simp [quarC, quarM, quarX, quarY, nearC, nearM, distV, sqS, amount, Sn.neg, Sn.cs, mx, inB, Pt.valid, spanB, Box.proper, within, canV, mustV]))
theorem r37 : ∀ args v, p37 args = some v → Pev cx0 37 args v := by
  intro args v h
  unfold p37 at h
  split at h
  · cases h; apply t37
  · cases h
theorem q37 : ∀ args T, lift p37 args = some T → ∀ K, T K → ∃ v, Pev cx0 37 args v ∧ K v := lift_ok r37
theorem t18 (a0 a1 a2 a3 : Int) : Pev cx0 18 [.agg [.int .i64 a0, .int .i64 a1, .int .i64 a2, .int .i64 a3]] (.bool (Box.proper ⟨a0, a1, a2, a3⟩)) := by
  have F : ∀ Q : Rs → Prop, vc cx0 (enOf elT tab2) 40 (.pcall 18 [.agg [.int .i64 a0, .int .i64 a1, .int .i64 a2, .int .i64 a3]]) Q = (Q (Rs.val (V.bool (Pt.valid (Pt.mk a0 a2) && Pt.valid (Pt.mk a1 a3) && decide (a0 ≤ a1) && decide (a2 ≤ a3))) Hp.empty)) := fun Q => by kernel_rfl
  refine vcP en2_ok 40 ?_
  rw [F]
  try clear F
  repeat' (first | rfl | refine needI (by first | (simp only [leB, ltB, leN, Bool.and_eq_true, decide_eq_true_eq]; omega) | simp_all [leB, ltB, leN]) ?_ | refine exI _ (by assumption) ?_ | refine brI (fun h => ?_) (fun h => ?_))
  all_goals (first | (simp only [quarC, quarM, quarX, quarY, nearC, nearM, distV, sqS, amount, Sn.neg, Sn.cs, mx, inB, Pt.valid, spanB, Box.proper, within, canV, mustV, cond_true, cond_false, *] <;> rfl) | (simp_all [quarC, quarM, quarX, quarY, nearC, nearM, distV, sqS, amount, Sn.neg, Sn.cs, mx, inB, Pt.valid, spanB, Box.proper, within, canV, mustV] <;> omega) | (congr 2; rw [Bool.eq_iff_iff]; simp [quarC, quarM, quarX, quarY, nearC, nearM, distV, sqS, amount, Sn.neg, Sn.cs, mx, inB, Pt.valid, spanB, Box.proper, within, canV, mustV]; omega) | (congr 2; rw [Bool.eq_iff_iff]; simp [quarC, quarM, quarX, quarY, nearC, nearM, distV, sqS, amount, Sn.neg, Sn.cs, mx, inB, Pt.valid, spanB, Box.proper, within, canV, mustV]))
theorem r18 : ∀ args v, p37 args = some v → Pev cx0 18 args v := by
  intro args v h
  unfold p37 at h
  split at h
  · cases h; apply t18
  · cases h
theorem q18 : ∀ args T, lift p37 args = some T → ∀ K, T K → ∃ v, Pev cx0 18 args v ∧ K v := lift_ok r18
theorem t288 (id kd : Int) (ng : Bool) (fa fb fc flo fhi fq : Int) (β cl : Bool) (es : List (List V)) {A B : Box} (_hc0 : boxAt es fa = some A) (_hc1 : boxAt es fb = some B) : Pev cx0 288 [.agg [.int .i64 id, .int .i64 kd, .bool ng, .int .i64 fa, .int .i64 fb, .int .i64 fc, .int .i64 flo, .int .i64 fhi, .int .i64 fq, .imm β 4 cl es]] (.tup [.agg (less B.X A.X).cs, .agg (less B.Y A.Y).cs]) := by
  have F : ∀ Q : Rs → Prop, vc cx0 (enOf elT tab2) 40 (.pcall 288 [.agg [.int .i64 id, .int .i64 kd, .bool ng, .int .i64 fa, .int .i64 fb, .int .i64 fc, .int .i64 flo, .int .i64 fhi, .int .i64 fq, .imm β 4 cl es]]) Q = (need (leB 0 fa) (∃ b, es[Int.toNat fa]? = some (Box.cs b) ∧ need (leB 0 fb) (∃ b_1, es[Int.toNat fb]? = some (Box.cs b_1) ∧ Q (Rs.val (V.tup [V.agg [V.int IntKind.i64 (Sn.lo (less (Sn.mk (Box.x0 b_1) (Box.x1 b_1)) (Sn.mk (Box.x0 b) (Box.x1 b)))), V.int IntKind.i64 (Sn.hi (less (Sn.mk (Box.x0 b_1) (Box.x1 b_1)) (Sn.mk (Box.x0 b) (Box.x1 b))))], V.agg [V.int IntKind.i64 (Sn.lo (less (Sn.mk (Box.y0 b_1) (Box.y1 b_1)) (Sn.mk (Box.y0 b) (Box.y1 b)))), V.int IntKind.i64 (Sn.hi (less (Sn.mk (Box.y0 b_1) (Box.y1 b_1)) (Sn.mk (Box.y0 b) (Box.y1 b))))]]) Hp.empty)))) := fun Q => by kernel_rfl
  obtain ⟨_ha0, _hb0⟩ := boxAt_eq _hc0
  obtain ⟨_ha1, _hb1⟩ := boxAt_eq _hc1
  refine vcP en2_ok 40 ?_
  rw [F]
  try clear F
  repeat' (first | rfl | refine needI (by first | (simp only [leB, ltB, leN, Bool.and_eq_true, decide_eq_true_eq]; omega) | simp_all [leB, ltB, leN]) ?_ | refine exI _ (by assumption) ?_ | refine brI (fun h => ?_) (fun h => ?_))
  all_goals (first | (simp only [quarC, quarM, quarX, quarY, nearC, nearM, distV, sqS, amount, Sn.neg, Sn.cs, mx, inB, Pt.valid, spanB, Box.proper, within, canV, mustV, cond_true, cond_false, *] <;> rfl) | (simp_all [quarC, quarM, quarX, quarY, nearC, nearM, distV, sqS, amount, Sn.neg, Sn.cs, mx, inB, Pt.valid, spanB, Box.proper, within, canV, mustV] <;> omega) | (congr 2; rw [Bool.eq_iff_iff]; simp [quarC, quarM, quarX, quarY, nearC, nearM, distV, sqS, amount, Sn.neg, Sn.cs, mx, inB, Pt.valid, spanB, Box.proper, within, canV, mustV]; omega) | (congr 2; rw [Bool.eq_iff_iff]; simp [quarC, quarM, quarX, quarY, nearC, nearM, distV, sqS, amount, Sn.neg, Sn.cs, mx, inB, Pt.valid, spanB, Box.proper, within, canV, mustV]))
theorem r288 : ∀ args v, p288 args = some v → Pev cx0 288 args v := by
  intro args v h
  unfold p288 at h
  split at h
  · repeat (split at h; rotate_left; · cases h)
    cases h
    apply t288 <;> assumption
  · cases h
theorem q288 : ∀ args T, q288T args = some T → ∀ K, T K → ∃ v, Pev cx0 288 args v ∧ K v := by
  intro args T hT K hK
  unfold q288T at hT
  split at hT
  · cases hT; obtain ⟨_, _, _, _, hK⟩ := hK; refine ⟨_, ?_, hK⟩; apply t288 <;> assumption
  · cases hT
theorem tab3_ok : TabOk cx0 tab3 := by
  have e : tab3 = [(18, (lift p37)), (33, (lift p84)), (34, (lift p34)), (37, (lift p37)), (39, (lift p34)), (66, (lift p84)), (67, (lift p218)), (84, (lift p84)), (86, (lift p86)), (88, (lift p88)), (91, (lift p84)), (93, (lift p88)), (100, (lift p100)), (105, (lift p88)), (120, (lift p160)), (126, (lift p84)), (144, (lift p84)), (158, (lift p84)), (160, (lift p160)), (162, (lift p162)), (168, (lift p168)), (218, (lift p218)), (288, q288T), (289, (lift p289)), (290, (lift p290)), (319, (lift p319)), (324, (lift p324)), (325, (lift p325))].foldl (fun t x => t.set x.1 x.2) .nil := by kernel_rfl
  rw [e]
  refine TabOk.all fun x hx => ?_
  simp only [List.mem_cons, List.not_mem_nil, or_false] at hx
  rcases hx with rfl | rfl | rfl | rfl | rfl | rfl | rfl | rfl | rfl | rfl | rfl | rfl | rfl | rfl | rfl | rfl | rfl | rfl | rfl | rfl | rfl | rfl | rfl | rfl | rfl | rfl | rfl | rfl
  · exact q18
  · exact q33
  · exact q34
  · exact q37
  · exact q39
  · exact q66
  · exact q67
  · exact q84
  · exact q86
  · exact q88
  · exact q91
  · exact q93
  · exact q100
  · exact q105
  · exact q120
  · exact q126
  · exact q144
  · exact q158
  · exact q160
  · exact q162
  · exact q168
  · exact q218
  · exact q288
  · exact q289
  · exact q290
  · exact q319
  · exact q324
  · exact q325
theorem en3_ok : EnOk cx0 (enOf elT tab3) := enOf_ok elT_ok tab3_ok
theorem t254 (id kd : Int) (ng : Bool) (fa fb fc flo fhi fq : Int) (β cl : Bool) (es : List (List V)) {A B : Box} (_hc0 : boxAt es fa = some A) (_hc1 : boxAt es fb = some B) : Pev cx0 254 [.agg [.int .i64 id, .int .i64 kd, .bool ng, .int .i64 fa, .int .i64 fb, .int .i64 fc, .int .i64 flo, .int .i64 fhi, .int .i64 fq, .imm β 4 cl es]] (.tup [.bool (canV (distV A B) ⟨flo, fhi⟩), .bool (mustV (distV A B) ⟨flo, fhi⟩)]) := by
  have F : ∀ Q : Rs → Prop, vc cx0 (enOf elT tab3) 60 (.pcall 254 [.agg [.int .i64 id, .int .i64 kd, .bool ng, .int .i64 fa, .int .i64 fb, .int .i64 fc, .int .i64 flo, .int .i64 fhi, .int .i64 fq, .imm β 4 cl es]]) Q = (∃ A, boxAt es fa = some A ∧ ∃ B, boxAt es fb = some B ∧ Q (Rs.val (V.tup [V.bool (canV (Sn.mk (w64 (w64 (Sn.lo (amount (less (Box.X B) (Box.X A))) * Sn.lo (amount (less (Box.X B) (Box.X A)))) + w64 (Sn.lo (amount (less (Box.Y B) (Box.Y A))) * Sn.lo (amount (less (Box.Y B) (Box.Y A)))))) (w64 (w64 (Sn.hi (amount (less (Box.X B) (Box.X A))) * Sn.hi (amount (less (Box.X B) (Box.X A)))) + w64 (Sn.hi (amount (less (Box.Y B) (Box.Y A))) * Sn.hi (amount (less (Box.Y B) (Box.Y A))))))) (Sn.mk flo fhi)), V.bool (mustV (Sn.mk (w64 (w64 (Sn.lo (amount (less (Box.X B) (Box.X A))) * Sn.lo (amount (less (Box.X B) (Box.X A)))) + w64 (Sn.lo (amount (less (Box.Y B) (Box.Y A))) * Sn.lo (amount (less (Box.Y B) (Box.Y A)))))) (w64 (w64 (Sn.hi (amount (less (Box.X B) (Box.X A))) * Sn.hi (amount (less (Box.X B) (Box.X A)))) + w64 (Sn.hi (amount (less (Box.Y B) (Box.Y A))) * Sn.hi (amount (less (Box.Y B) (Box.Y A))))))) (Sn.mk flo fhi))]) Hp.empty)) := fun Q => by kernel_rfl
  obtain ⟨_ha0, _hb0⟩ := boxAt_eq _hc0
  obtain ⟨_ha1, _hb1⟩ := boxAt_eq _hc1
  refine vcP en3_ok 60 ?_
  rw [F]
  try clear F
  exact exI _ _hc0 (exI _ _hc1 (by kernel_rfl))
theorem r254 : ∀ args v, p254 args = some v → Pev cx0 254 args v := by
  intro args v h
  unfold p254 at h
  split at h
  · repeat (split at h; rotate_left; · cases h)
    cases h
    apply t254 <;> assumption
  · cases h
theorem q254 : ∀ args T, q254T args = some T → ∀ K, T K → ∃ v, Pev cx0 254 args v ∧ K v := by
  intro args T hT K hK
  unfold q254T at hT
  split at hT
  · cases hT; obtain ⟨_, _, _, _, hK⟩ := hK; refine ⟨_, ?_, hK⟩; apply t254 <;> assumption
  · cases hT
theorem t257 (id kd : Int) (ng : Bool) (fa fb fc flo fhi fq : Int) (β cl : Bool) (es : List (List V)) {A B : Box} (_hc0 : boxAt es fa = some A) (_hc1 : boxAt es fb = some B) : Pev cx0 257 [.agg [.int .i64 id, .int .i64 kd, .bool ng, .int .i64 fa, .int .i64 fb, .int .i64 fc, .int .i64 flo, .int .i64 fhi, .int .i64 fq, .imm β 4 cl es]] (.tup [.bool (nearC A B fhi), .bool (nearM A B fhi)]) := by
  have F : ∀ Q : Rs → Prop, vc cx0 (enOf elT tab3) 60 (.pcall 257 [.agg [.int .i64 id, .int .i64 kd, .bool ng, .int .i64 fa, .int .i64 fb, .int .i64 fc, .int .i64 flo, .int .i64 fhi, .int .i64 fq, .imm β 4 cl es]]) Q = (∃ A, boxAt es fa = some A ∧ ∃ B, boxAt es fb = some B ∧ Q (Rs.val (V.tup [V.bool (decide (mx (Sn.lo (amount (less (Box.X B) (Box.X A)))) (Sn.lo (amount (less (Box.Y B) (Box.Y A)))) ≤ fhi)), V.bool (decide (mx (Sn.hi (amount (less (Box.X B) (Box.X A)))) (Sn.hi (amount (less (Box.Y B) (Box.Y A)))) ≤ fhi))]) Hp.empty)) := fun Q => by kernel_rfl
  obtain ⟨_ha0, _hb0⟩ := boxAt_eq _hc0
  obtain ⟨_ha1, _hb1⟩ := boxAt_eq _hc1
  refine vcP en3_ok 60 ?_
  rw [F]
  try clear F
  repeat' (first | rfl | refine needI (by first | (simp only [leB, ltB, leN, Bool.and_eq_true, decide_eq_true_eq]; omega) | simp_all [leB, ltB, leN]) ?_ | refine exI _ (by assumption) ?_ | refine brI (fun h => ?_) (fun h => ?_))
  all_goals (first | (simp only [quarC, quarM, quarX, quarY, nearC, nearM, distV, sqS, amount, Sn.neg, Sn.cs, mx, inB, Pt.valid, spanB, Box.proper, within, canV, mustV, cond_true, cond_false, *] <;> rfl) | (simp_all [quarC, quarM, quarX, quarY, nearC, nearM, distV, sqS, amount, Sn.neg, Sn.cs, mx, inB, Pt.valid, spanB, Box.proper, within, canV, mustV] <;> omega) | (congr 2; rw [Bool.eq_iff_iff]; simp [quarC, quarM, quarX, quarY, nearC, nearM, distV, sqS, amount, Sn.neg, Sn.cs, mx, inB, Pt.valid, spanB, Box.proper, within, canV, mustV]; omega) | (congr 2; rw [Bool.eq_iff_iff]; simp [quarC, quarM, quarX, quarY, nearC, nearM, distV, sqS, amount, Sn.neg, Sn.cs, mx, inB, Pt.valid, spanB, Box.proper, within, canV, mustV]))
theorem r257 : ∀ args v, p257 args = some v → Pev cx0 257 args v := by
  intro args v h
  unfold p257 at h
  split at h
  · repeat (split at h; rotate_left; · cases h)
    cases h
    apply t257 <;> assumption
  · cases h
theorem q257 : ∀ args T, q257T args = some T → ∀ K, T K → ∃ v, Pev cx0 257 args v ∧ K v := by
  intro args T hT K hK
  unfold q257T at hT
  split at hT
  · cases hT; obtain ⟨_, _, _, _, hK⟩ := hK; refine ⟨_, ?_, hK⟩; apply t257 <;> assumption
  · cases hT
theorem t258 (id kd : Int) (ng : Bool) (fa fb fc flo fhi fq : Int) (β cl : Bool) (es : List (List V)) {A B : Box} (_hc0 : boxAt es fa = some A) (_hc1 : boxAt es fb = some B) : Pev cx0 258 [.agg [.int .i64 id, .int .i64 kd, .bool ng, .int .i64 fa, .int .i64 fb, .int .i64 fc, .int .i64 flo, .int .i64 fhi, .int .i64 fq, .imm β 4 cl es]] (.tup [.bool (canV (less B.X A.X) ⟨flo, fhi⟩), .bool (mustV (less B.X A.X) ⟨flo, fhi⟩)]) := by
  have F : ∀ Q : Rs → Prop, vc cx0 (enOf elT tab3) 60 (.pcall 258 [.agg [.int .i64 id, .int .i64 kd, .bool ng, .int .i64 fa, .int .i64 fb, .int .i64 fc, .int .i64 flo, .int .i64 fhi, .int .i64 fq, .imm β 4 cl es]]) Q = (∃ A, boxAt es fa = some A ∧ ∃ B, boxAt es fb = some B ∧ Q (Rs.val (V.tup [V.bool (canV (less (Box.X B) (Box.X A)) (Sn.mk flo fhi)), V.bool (mustV (less (Box.X B) (Box.X A)) (Sn.mk flo fhi))]) Hp.empty)) := fun Q => by kernel_rfl
  obtain ⟨_ha0, _hb0⟩ := boxAt_eq _hc0
  obtain ⟨_ha1, _hb1⟩ := boxAt_eq _hc1
  refine vcP en3_ok 60 ?_
  rw [F]
  try clear F
  repeat' (first | rfl | refine needI (by first | (simp only [leB, ltB, leN, Bool.and_eq_true, decide_eq_true_eq]; omega) | simp_all [leB, ltB, leN]) ?_ | refine exI _ (by assumption) ?_ | refine brI (fun h => ?_) (fun h => ?_))
  all_goals (first | (simp only [quarC, quarM, quarX, quarY, nearC, nearM, distV, sqS, amount, Sn.neg, Sn.cs, mx, inB, Pt.valid, spanB, Box.proper, within, canV, mustV, cond_true, cond_false, *] <;> rfl) | (simp_all [quarC, quarM, quarX, quarY, nearC, nearM, distV, sqS, amount, Sn.neg, Sn.cs, mx, inB, Pt.valid, spanB, Box.proper, within, canV, mustV] <;> omega) | (congr 2; rw [Bool.eq_iff_iff]; simp [quarC, quarM, quarX, quarY, nearC, nearM, distV, sqS, amount, Sn.neg, Sn.cs, mx, inB, Pt.valid, spanB, Box.proper, within, canV, mustV]; omega) | (congr 2; rw [Bool.eq_iff_iff]; simp [quarC, quarM, quarX, quarY, nearC, nearM, distV, sqS, amount, Sn.neg, Sn.cs, mx, inB, Pt.valid, spanB, Box.proper, within, canV, mustV]))
theorem r258 : ∀ args v, p258 args = some v → Pev cx0 258 args v := by
  intro args v h
  unfold p258 at h
  split at h
  · repeat (split at h; rotate_left; · cases h)
    cases h
    apply t258 <;> assumption
  · cases h
theorem q258 : ∀ args T, q258T args = some T → ∀ K, T K → ∃ v, Pev cx0 258 args v ∧ K v := by
  intro args T hT K hK
  unfold q258T at hT
  split at hT
  · cases hT; obtain ⟨_, _, _, _, hK⟩ := hK; refine ⟨_, ?_, hK⟩; apply t258 <;> assumption
  · cases hT
theorem t259 (id kd : Int) (ng : Bool) (fa fb fc flo fhi fq : Int) (β cl : Bool) (es : List (List V)) {A B : Box} (_hc0 : boxAt es fa = some A) (_hc1 : boxAt es fb = some B) : Pev cx0 259 [.agg [.int .i64 id, .int .i64 kd, .bool ng, .int .i64 fa, .int .i64 fb, .int .i64 fc, .int .i64 flo, .int .i64 fhi, .int .i64 fq, .imm β 4 cl es]] (.tup [.bool (canV (less B.Y A.Y) ⟨flo, fhi⟩), .bool (mustV (less B.Y A.Y) ⟨flo, fhi⟩)]) := by
  have F : ∀ Q : Rs → Prop, vc cx0 (enOf elT tab3) 60 (.pcall 259 [.agg [.int .i64 id, .int .i64 kd, .bool ng, .int .i64 fa, .int .i64 fb, .int .i64 fc, .int .i64 flo, .int .i64 fhi, .int .i64 fq, .imm β 4 cl es]]) Q = (∃ A, boxAt es fa = some A ∧ ∃ B, boxAt es fb = some B ∧ Q (Rs.val (V.tup [V.bool (canV (less (Box.Y B) (Box.Y A)) (Sn.mk flo fhi)), V.bool (mustV (less (Box.Y B) (Box.Y A)) (Sn.mk flo fhi))]) Hp.empty)) := fun Q => by kernel_rfl
  obtain ⟨_ha0, _hb0⟩ := boxAt_eq _hc0
  obtain ⟨_ha1, _hb1⟩ := boxAt_eq _hc1
  refine vcP en3_ok 60 ?_
  rw [F]
  try clear F
  repeat' (first | rfl | refine needI (by first | (simp only [leB, ltB, leN, Bool.and_eq_true, decide_eq_true_eq]; omega) | simp_all [leB, ltB, leN]) ?_ | refine exI _ (by assumption) ?_ | refine brI (fun h => ?_) (fun h => ?_))
  all_goals (first | (simp only [quarC, quarM, quarX, quarY, nearC, nearM, distV, sqS, amount, Sn.neg, Sn.cs, mx, inB, Pt.valid, spanB, Box.proper, within, canV, mustV, cond_true, cond_false, *] <;> rfl) | (simp_all [quarC, quarM, quarX, quarY, nearC, nearM, distV, sqS, amount, Sn.neg, Sn.cs, mx, inB, Pt.valid, spanB, Box.proper, within, canV, mustV] <;> omega) | (congr 2; rw [Bool.eq_iff_iff]; simp [quarC, quarM, quarX, quarY, nearC, nearM, distV, sqS, amount, Sn.neg, Sn.cs, mx, inB, Pt.valid, spanB, Box.proper, within, canV, mustV]; omega) | (congr 2; rw [Bool.eq_iff_iff]; simp [quarC, quarM, quarX, quarY, nearC, nearM, distV, sqS, amount, Sn.neg, Sn.cs, mx, inB, Pt.valid, spanB, Box.proper, within, canV, mustV]))
theorem r259 : ∀ args v, p259 args = some v → Pev cx0 259 args v := by
  intro args v h
  unfold p259 at h
  split at h
  · repeat (split at h; rotate_left; · cases h)
    cases h
    apply t259 <;> assumption
  · cases h
theorem q259 : ∀ args T, q259T args = some T → ∀ K, T K → ∃ v, Pev cx0 259 args v ∧ K v := by
  intro args T hT K hK
  unfold q259T at hT
  split at hT
  · cases hT; obtain ⟨_, _, _, _, hK⟩ := hK; refine ⟨_, ?_, hK⟩; apply t259 <;> assumption
  · cases hT
theorem t256 (id kd : Int) (ng : Bool) (fa fb fc flo fhi fq : Int) (β cl : Bool) (es : List (List V)) {A B : Box} (_hc0 : boxAt es fa = some A) (_hc1 : boxAt es fb = some B) : Pev cx0 256 [.agg [.int .i64 id, .int .i64 kd, .bool ng, .int .i64 fa, .int .i64 fb, .int .i64 fc, .int .i64 flo, .int .i64 fhi, .int .i64 fq, .imm β 4 cl es]] (.tup [.bool (quarC A B fq), .bool (quarM A B fq)]) := by
  have F : ∀ Q : Rs → Prop, vc cx0 (enOf elT tab3) 60 (.pcall 256 [.agg [.int .i64 id, .int .i64 kd, .bool ng, .int .i64 fa, .int .i64 fb, .int .i64 fc, .int .i64 flo, .int .i64 fhi, .int .i64 fq, .imm β 4 cl es]]) Q = (∃ A, boxAt es fa = some A ∧ ∃ B, boxAt es fb = some B ∧ brW (fq == 1) (brW (decide (Sn.hi (less (Box.Y B) (Box.Y A)) > 0)) (brW (decide (Sn.lo (less (Box.Y B) (Box.Y A)) > 0)) (Q (Rs.val (V.tup [V.bool (decide (Sn.hi (less (Box.Y B) (Box.Y A)) ≥ Sn.lo (amount (less (Box.X B) (Box.X A))))), V.bool (decide (Sn.lo (less (Box.Y B) (Box.Y A)) ≥ Sn.hi (amount (less (Box.X B) (Box.X A)))))]) Hp.empty)) (Q (Rs.val (V.tup [V.bool (decide (Sn.hi (less (Box.Y B) (Box.Y A)) ≥ Sn.lo (amount (less (Box.X B) (Box.X A))))), V.bool false]) Hp.empty))) (brW (decide (Sn.lo (less (Box.Y B) (Box.Y A)) > 0)) (Q (Rs.val (V.tup [V.bool false, V.bool (decide (Sn.lo (less (Box.Y B) (Box.Y A)) ≥ Sn.hi (amount (less (Box.X B) (Box.X A)))))]) Hp.empty)) (Q (Rs.val (V.tup [V.bool false, V.bool false]) Hp.empty)))) (brW (fq == 2) (brW (decide (w64 (0 - Sn.lo (less (Box.X B) (Box.X A))) > 0)) (brW (decide (w64 (0 - Sn.hi (less (Box.X B) (Box.X A))) > 0)) (Q (Rs.val (V.tup [V.bool (decide (w64 (0 - Sn.lo (less (Box.X B) (Box.X A))) ≥ Sn.lo (amount (less (Box.Y B) (Box.Y A))))), V.bool (decide (w64 (0 - Sn.hi (less (Box.X B) (Box.X A))) ≥ Sn.hi (amount (less (Box.Y B) (Box.Y A)))))]) Hp.empty)) (Q (Rs.val (V.tup [V.bool (decide (w64 (0 - Sn.lo (less (Box.X B) (Box.X A))) ≥ Sn.lo (amount (less (Box.Y B) (Box.Y A))))), V.bool false]) Hp.empty))) (brW (decide (w64 (0 - Sn.hi (less (Box.X B) (Box.X A))) > 0)) (Q (Rs.val (V.tup [V.bool false, V.bool (decide (w64 (0 - Sn.hi (less (Box.X B) (Box.X A))) ≥ Sn.hi (amount (less (Box.Y B) (Box.Y A)))))]) Hp.empty)) (Q (Rs.val (V.tup [V.bool false, V.bool false]) Hp.empty)))) (brW (fq == 3) (brW (decide (w64 (0 - Sn.lo (less (Box.Y B) (Box.Y A))) > 0)) (brW (decide (w64 (0 - Sn.hi (less (Box.Y B) (Box.Y A))) > 0)) (Q (Rs.val (V.tup [V.bool (decide (w64 (0 - Sn.lo (less (Box.Y B) (Box.Y A))) ≥ Sn.lo (amount (less (Box.X B) (Box.X A))))), V.bool (decide (w64 (0 - Sn.hi (less (Box.Y B) (Box.Y A))) ≥ Sn.hi (amount (less (Box.X B) (Box.X A)))))]) Hp.empty)) (Q (Rs.val (V.tup [V.bool (decide (w64 (0 - Sn.lo (less (Box.Y B) (Box.Y A))) ≥ Sn.lo (amount (less (Box.X B) (Box.X A))))), V.bool false]) Hp.empty))) (brW (decide (w64 (0 - Sn.hi (less (Box.Y B) (Box.Y A))) > 0)) (Q (Rs.val (V.tup [V.bool false, V.bool (decide (w64 (0 - Sn.hi (less (Box.Y B) (Box.Y A))) ≥ Sn.hi (amount (less (Box.X B) (Box.X A)))))]) Hp.empty)) (Q (Rs.val (V.tup [V.bool false, V.bool false]) Hp.empty)))) (brW (decide (Sn.hi (less (Box.X B) (Box.X A)) > 0)) (brW (decide (Sn.lo (less (Box.X B) (Box.X A)) > 0)) (Q (Rs.val (V.tup [V.bool (decide (Sn.hi (less (Box.X B) (Box.X A)) ≥ Sn.lo (amount (less (Box.Y B) (Box.Y A))))), V.bool (decide (Sn.lo (less (Box.X B) (Box.X A)) ≥ Sn.hi (amount (less (Box.Y B) (Box.Y A)))))]) Hp.empty)) (Q (Rs.val (V.tup [V.bool (decide (Sn.hi (less (Box.X B) (Box.X A)) ≥ Sn.lo (amount (less (Box.Y B) (Box.Y A))))), V.bool false]) Hp.empty))) (brW (decide (Sn.lo (less (Box.X B) (Box.X A)) > 0)) (Q (Rs.val (V.tup [V.bool false, V.bool (decide (Sn.lo (less (Box.X B) (Box.X A)) ≥ Sn.hi (amount (less (Box.Y B) (Box.Y A)))))]) Hp.empty)) (Q (Rs.val (V.tup [V.bool false, V.bool false]) Hp.empty))))))) := fun Q => by kernel_rfl
  obtain ⟨_ha0, _hb0⟩ := boxAt_eq _hc0
  obtain ⟨_ha1, _hb1⟩ := boxAt_eq _hc1
  refine vcP en3_ok 60 ?_
  rw [F]
  try clear F
  repeat' (first | rfl | refine needI (by first | (simp only [leB, ltB, leN, Bool.and_eq_true, decide_eq_true_eq]; omega) | simp_all [leB, ltB, leN]) ?_ | refine exI _ (by assumption) ?_ | refine brI (fun h => ?_) (fun h => ?_))
  all_goals (first | (simp only [quarC, quarM, quarX, quarY, nearC, nearM, distV, sqS, amount, Sn.neg, Sn.cs, mx, inB, Pt.valid, spanB, Box.proper, within, canV, mustV, cond_true, cond_false, *] <;> rfl) | (simp_all [quarC, quarM, quarX, quarY, nearC, nearM, distV, sqS, amount, Sn.neg, Sn.cs, mx, inB, Pt.valid, spanB, Box.proper, within, canV, mustV] <;> omega) | (congr 2; rw [Bool.eq_iff_iff]; simp [quarC, quarM, quarX, quarY, nearC, nearM, distV, sqS, amount, Sn.neg, Sn.cs, mx, inB, Pt.valid, spanB, Box.proper, within, canV, mustV]; omega) | (congr 2; rw [Bool.eq_iff_iff]; simp [quarC, quarM, quarX, quarY, nearC, nearM, distV, sqS, amount, Sn.neg, Sn.cs, mx, inB, Pt.valid, spanB, Box.proper, within, canV, mustV]))
theorem r256 : ∀ args v, p256 args = some v → Pev cx0 256 args v := by
  intro args v h
  unfold p256 at h
  split at h
  · repeat (split at h; rotate_left; · cases h)
    cases h
    apply t256 <;> assumption
  · cases h
theorem q256 : ∀ args T, q256T args = some T → ∀ K, T K → ∃ v, Pev cx0 256 args v ∧ K v := by
  intro args T hT K hK
  unfold q256T at hT
  split at hT
  · cases hT; obtain ⟨_, _, _, _, hK⟩ := hK; refine ⟨_, ?_, hK⟩; apply t256 <;> assumption
  · cases hT
theorem tab4_ok : TabOk cx0 tab4 := by
  have e : tab4 = [(18, (lift p37)), (33, (lift p84)), (34, (lift p34)), (37, (lift p37)), (39, (lift p34)), (66, (lift p84)), (67, (lift p218)), (84, (lift p84)), (86, (lift p86)), (88, (lift p88)), (91, (lift p84)), (93, (lift p88)), (100, (lift p100)), (105, (lift p88)), (120, (lift p160)), (126, (lift p84)), (144, (lift p84)), (158, (lift p84)), (160, (lift p160)), (162, (lift p162)), (168, (lift p168)), (218, (lift p218)), (254, q254T), (256, q256T), (257, q257T), (258, q258T), (259, q259T), (288, q288T), (289, (lift p289)), (290, (lift p290)), (319, (lift p319)), (324, (lift p324)), (325, (lift p325))].foldl (fun t x => t.set x.1 x.2) .nil := by kernel_rfl
  rw [e]
  refine TabOk.all fun x hx => ?_
  simp only [List.mem_cons, List.not_mem_nil, or_false] at hx
  rcases hx with rfl | rfl | rfl | rfl | rfl | rfl | rfl | rfl | rfl | rfl | rfl | rfl | rfl | rfl | rfl | rfl | rfl | rfl | rfl | rfl | rfl | rfl | rfl | rfl | rfl | rfl | rfl | rfl | rfl | rfl | rfl | rfl | rfl
  · exact q18
  · exact q33
  · exact q34
  · exact q37
  · exact q39
  · exact q66
  · exact q67
  · exact q84
  · exact q86
  · exact q88
  · exact q91
  · exact q93
  · exact q100
  · exact q105
  · exact q120
  · exact q126
  · exact q144
  · exact q158
  · exact q160
  · exact q162
  · exact q168
  · exact q218
  · exact q254
  · exact q256
  · exact q257
  · exact q258
  · exact q259
  · exact q288
  · exact q289
  · exact q290
  · exact q319
  · exact q324
  · exact q325
theorem en4_ok : EnOk cx0 (enOf elT tab4) := enOf_ok elT_ok tab4_ok
theorem t291 (a0 a1 a2 a3 : Int) : Pev cx0 291 [.agg [.int .i64 a0, .int .i64 a1, .int .i64 a2, .int .i64 a3]] (.agg [.int .i64 a0, .int .i64 a2, .int .i64 a0, .int .i64 a3, .int .i64 a1, .int .i64 a2, .int .i64 a1, .int .i64 a3]) := by
  have F : ∀ Q : Rs → Prop, vc cx0 (enOf elT tab4) 40 (.pcall 291 [.agg [.int .i64 a0, .int .i64 a1, .int .i64 a2, .int .i64 a3]]) Q = (Q (Rs.val (V.agg [V.int IntKind.i64 a0, V.int IntKind.i64 a2, V.int IntKind.i64 a0, V.int IntKind.i64 a3, V.int IntKind.i64 a1, V.int IntKind.i64 a2, V.int IntKind.i64 a1, V.int IntKind.i64 a3]) Hp.empty)) := fun Q => by kernel_rfl
  refine vcP en4_ok 40 ?_
  rw [F]
  try clear F
  repeat' (first | rfl | refine needI (by first | (simp only [leB, ltB, leN, Bool.and_eq_true, decide_eq_true_eq]; omega) | simp_all [leB, ltB, leN]) ?_ | refine exI _ (by assumption) ?_ | refine brI (fun h => ?_) (fun h => ?_))
  all_goals (first | (simp only [quarC, quarM, quarX, quarY, nearC, nearM, distV, sqS, amount, Sn.neg, Sn.cs, mx, inB, Pt.valid, spanB, Box.proper, within, canV, mustV, cond_true, cond_false, *] <;> rfl) | (simp_all [quarC, quarM, quarX, quarY, nearC, nearM, distV, sqS, amount, Sn.neg, Sn.cs, mx, inB, Pt.valid, spanB, Box.proper, within, canV, mustV] <;> omega) | (congr 2; rw [Bool.eq_iff_iff]; simp [quarC, quarM, quarX, quarY, nearC, nearM, distV, sqS, amount, Sn.neg, Sn.cs, mx, inB, Pt.valid, spanB, Box.proper, within, canV, mustV]; omega) | (congr 2; rw [Bool.eq_iff_iff]; simp [quarC, quarM, quarX, quarY, nearC, nearM, distV, sqS, amount, Sn.neg, Sn.cs, mx, inB, Pt.valid, spanB, Box.proper, within, canV, mustV]))
theorem r291 : ∀ args v, p291 args = some v → Pev cx0 291 args v := by
  intro args v h
  unfold p291 at h
  split at h
  · cases h; apply t291
  · cases h
theorem q291 : ∀ args T, lift p291 args = some T → ∀ K, T K → ∃ v, Pev cx0 291 args v ∧ K v := lift_ok r291
theorem t292 (ax ay bx bz cx cy : Int) : Pev cx0 292 [.agg [.int .i64 ax, .int .i64 ay], .agg [.int .i64 bx, .int .i64 bz], .agg [.int .i64 cx, .int .i64 cy]] (.int .i64 (tw ⟨ax, ay⟩ ⟨bx, bz⟩ ⟨cx, cy⟩)) := by
  have F : ∀ Q : Rs → Prop, vc cx0 (enOf elT tab4) 40 (.pcall 292 [.agg [.int .i64 ax, .int .i64 ay], .agg [.int .i64 bx, .int .i64 bz], .agg [.int .i64 cx, .int .i64 cy]]) Q = (Q (Rs.val (V.int IntKind.i64 (w64 (w64 (w64 (bx - ax) * w64 (cy - ay)) - w64 (w64 (bz - ay) * w64 (cx - ax))))) Hp.empty)) := fun Q => by kernel_rfl
  refine vcP en4_ok 40 ?_
  rw [F]
  try clear F
  repeat' (first | rfl | refine needI (by first | (simp only [leB, ltB, leN, Bool.and_eq_true, decide_eq_true_eq]; omega) | simp_all [leB, ltB, leN]) ?_ | refine exI _ (by assumption) ?_ | refine brI (fun h => ?_) (fun h => ?_))
  all_goals (first | (simp only [quarC, quarM, quarX, quarY, nearC, nearM, distV, sqS, amount, Sn.neg, Sn.cs, mx, inB, Pt.valid, spanB, Box.proper, within, canV, mustV, cond_true, cond_false, *] <;> rfl) | (simp_all [quarC, quarM, quarX, quarY, nearC, nearM, distV, sqS, amount, Sn.neg, Sn.cs, mx, inB, Pt.valid, spanB, Box.proper, within, canV, mustV] <;> omega) | (congr 2; rw [Bool.eq_iff_iff]; simp [quarC, quarM, quarX, quarY, nearC, nearM, distV, sqS, amount, Sn.neg, Sn.cs, mx, inB, Pt.valid, spanB, Box.proper, within, canV, mustV]; omega) | (congr 2; rw [Bool.eq_iff_iff]; simp [quarC, quarM, quarX, quarY, nearC, nearM, distV, sqS, amount, Sn.neg, Sn.cs, mx, inB, Pt.valid, spanB, Box.proper, within, canV, mustV]))
theorem r292 : ∀ args v, p292 args = some v → Pev cx0 292 args v := by
  intro args v h
  unfold p292 at h
  split at h
  · cases h; apply t292
  · cases h
theorem q292 : ∀ args T, lift p292 args = some T → ∀ K, T K → ∃ v, Pev cx0 292 args v ∧ K v := lift_ok r292
theorem tab5_ok : TabOk cx0 tab5 := by
  have e : tab5 = [(18, (lift p37)), (33, (lift p84)), (34, (lift p34)), (37, (lift p37)), (39, (lift p34)), (66, (lift p84)), (67, (lift p218)), (84, (lift p84)), (86, (lift p86)), (88, (lift p88)), (91, (lift p84)), (93, (lift p88)), (100, (lift p100)), (105, (lift p88)), (120, (lift p160)), (126, (lift p84)), (144, (lift p84)), (158, (lift p84)), (160, (lift p160)), (162, (lift p162)), (168, (lift p168)), (218, (lift p218)), (254, q254T), (256, q256T), (257, q257T), (258, q258T), (259, q259T), (288, q288T), (289, (lift p289)), (290, (lift p290)), (291, (lift p291)), (292, (lift p292)), (319, (lift p319)), (324, (lift p324)), (325, (lift p325))].foldl (fun t x => t.set x.1 x.2) .nil := by kernel_rfl
  rw [e]
  refine TabOk.all fun x hx => ?_
  simp only [List.mem_cons, List.not_mem_nil, or_false] at hx
  rcases hx with rfl | rfl | rfl | rfl | rfl | rfl | rfl | rfl | rfl | rfl | rfl | rfl | rfl | rfl | rfl | rfl | rfl | rfl | rfl | rfl | rfl | rfl | rfl | rfl | rfl | rfl | rfl | rfl | rfl | rfl | rfl | rfl | rfl | rfl | rfl
  · exact q18
  · exact q33
  · exact q34
  · exact q37
  · exact q39
  · exact q66
  · exact q67
  · exact q84
  · exact q86
  · exact q88
  · exact q91
  · exact q93
  · exact q100
  · exact q105
  · exact q120
  · exact q126
  · exact q144
  · exact q158
  · exact q160
  · exact q162
  · exact q168
  · exact q218
  · exact q254
  · exact q256
  · exact q257
  · exact q258
  · exact q259
  · exact q288
  · exact q289
  · exact q290
  · exact q291
  · exact q292
  · exact q319
  · exact q324
  · exact q325
theorem en5_ok : EnOk cx0 (enOf elT tab5) := enOf_ok elT_ok tab5_ok
theorem t255 (id kd : Int) (ng : Bool) (fa fb fc flo fhi fq : Int) (β cl : Bool) (es : List (List V)) {A B C : Box} (_hc0 : boxAt es fa = some A) (_hc1 : boxAt es fb = some B) (_hc2 : boxAt es fc = some C) : Pev cx0 255 [.agg [.int .i64 id, .int .i64 kd, .bool ng, .int .i64 fa, .int .i64 fb, .int .i64 fc, .int .i64 flo, .int .i64 fhi, .int .i64 fq, .imm β 4 cl es]] (.tup [.bool (canV (turnV A B C) ⟨flo, fhi⟩), .bool (mustV (turnV A B C) ⟨flo, fhi⟩)]) := by
  have F : ∀ Q : Rs → Prop, vc cx0 (enOf elT tab5) 60 (.pcall 255 [.agg [.int .i64 id, .int .i64 kd, .bool ng, .int .i64 fa, .int .i64 fb, .int .i64 fc, .int .i64 flo, .int .i64 fhi, .int .i64 fq, .imm β 4 cl es]]) Q = (need (leB 0 fa) (∃ b, es[Int.toNat fa]? = some (Box.cs b) ∧ need (leB 0 fb) (∃ b_1, es[Int.toNat fb]? = some (Box.cs b_1) ∧ need (leB 0 fc) (∃ b_2, es[Int.toNat fc]? = some (Box.cs b_2) ∧ need (leB 0 fc) (∃ b_3, es[Int.toNat fc]? = some (Box.cs b_3) ∧ need (leB 0 fc) (∃ b_4, es[Int.toNat fc]? = some (Box.cs b_4) ∧ need (leB 0 fc) (∃ b_5, es[Int.toNat fc]? = some (Box.cs b_5) ∧ need (leB 0 fb) (∃ b_6, es[Int.toNat fb]? = some (Box.cs b_6) ∧ need (leB 0 fc) (∃ b_7, es[Int.toNat fc]? = some (Box.cs b_7) ∧ need (leB 0 fc) (∃ b_8, es[Int.toNat fc]? = some (Box.cs b_8) ∧ need (leB 0 fc) (∃ b_9, es[Int.toNat fc]? = some (Box.cs b_9) ∧ need (leB 0 fc) (∃ b_10, es[Int.toNat fc]? = some (Box.cs b_10) ∧ need (leB 0 fb) (∃ b_11, es[Int.toNat fb]? = some (Box.cs b_11) ∧ need (leB 0 fc) (∃ b_12, es[Int.toNat fc]? = some (Box.cs b_12) ∧ need (leB 0 fc) (∃ b_13, es[Int.toNat fc]? = some (Box.cs b_13) ∧ need (leB 0 fc) (∃ b_14, es[Int.toNat fc]? = some (Box.cs b_14) ∧ need (leB 0 fc) (∃ b_15, es[Int.toNat fc]? = some (Box.cs b_15) ∧ need (leB 0 fb) (∃ b_16, es[Int.toNat fb]? = some (Box.cs b_16) ∧ need (leB 0 fc) (∃ b_17, es[Int.toNat fc]? = some (Box.cs b_17) ∧ need (leB 0 fc) (∃ b_18, es[Int.toNat fc]? = some (Box.cs b_18) ∧ need (leB 0 fc) (∃ b_19, es[Int.toNat fc]? = some (Box.cs b_19) ∧ need (leB 0 fc) (∃ b_20, es[Int.toNat fc]? = some (Box.cs b_20) ∧ Q (Rs.val (V.tup [V.bool (canV (Sn.mk (mn (mn (mn (mn (mn (mn (mn (mn (mn (mn (mn (mn (mn (mn (mn (mn (mn (mn (mn (mn (mn (mn (mn (mn (mn (mn (mn (mn (mn (mn (mn (mn (mn (mn (mn (mn (mn (mn (mn (mn (mn (mn (mn (mn (mn (mn (mn (mn (mn (mn (mn (mn (mn (mn (mn (mn (mn (mn (mn (mn (mn (mn (mn (mn (tw (Pt.mk (Box.x0 b) (Box.y0 b)) (Pt.mk (Box.x0 b_1) (Box.y0 b_1)) (Pt.mk (Box.x0 b_2) (Box.y0 b_2))) (tw (Pt.mk (Box.x0 b) (Box.y0 b)) (Pt.mk (Box.x0 b_1) (Box.y0 b_1)) (Pt.mk (Box.x0 b_2) (Box.y0 b_2)))) (tw (Pt.mk (Box.x0 b) (Box.y0 b)) (Pt.mk (Box.x0 b_1) (Box.y0 b_1)) (Pt.mk (Box.x0 b_2) (Box.y1 b_2)))) (tw (Pt.mk (Box.x0 b) (Box.y0 b)) (Pt.mk (Box.x0 b_1) (Box.y0 b_1)) (Pt.mk (Box.x1 b_2) (Box.y0 b_2)))) (tw (Pt.mk (Box.x0 b) (Box.y0 b)) (Pt.mk (Box.x0 b_1) (Box.y0 b_1)) (Pt.mk (Box.x1 b_2) (Box.y1 b_2)))) (tw (Pt.mk (Box.x0 b) (Box.y0 b)) (Pt.mk (Box.x0 b_1) (Box.y1 b_1)) (Pt.mk (Box.x0 b_3) (Box.y0 b_3)))) (tw (Pt.mk (Box.x0 b) (Box.y0 b)) (Pt.mk (Box.x0 b_1) (Box.y1 b_1)) (Pt.mk (Box.x0 b_3) (Box.y1 b_3)))) (tw (Pt.mk (Box.x0 b) (Box.y0 b)) (Pt.mk (Box.x0 b_1) (Box.y1 b_1)) (Pt.mk (Box.x1 b_3) (Box.y0 b_3)))) (tw (Pt.mk (Box.x0 b) (Box.y0 b)) (Pt.mk (Box.x0 b_1) (Box.y1 b_1)) (Pt.mk (Box.x1 b_3) (Box.y1 b_3)))) (tw (Pt.mk (Box.x0 b) (Box.y0 b)) (Pt.mk (Box.x1 b_1) (Box.y0 b_1)) (Pt.mk (Box.x0 b_4) (Box.y0 b_4)))) (tw (Pt.mk (Box.x0 b) (Box.y0 b)) (Pt.mk (Box.x1 b_1) (Box.y0 b_1)) (Pt.mk (Box.x0 b_4) (Box.y1 b_4)))) (tw (Pt.mk (Box.x0 b) (Box.y0 b)) (Pt.mk (Box.x1 b_1) (Box.y0 b_1)) (Pt.mk (Box.x1 b_4) (Box.y0 b_4)))) (tw (Pt.mk (Box.x0 b) (Box.y0 b)) (Pt.mk (Box.x1 b_1) (Box.y0 b_1)) (Pt.mk (Box.x1 b_4) (Box.y1 b_4)))) (tw (Pt.mk (Box.x0 b) (Box.y0 b)) (Pt.mk (Box.x1 b_1) (Box.y1 b_1)) (Pt.mk (Box.x0 b_5) (Box.y0 b_5)))) (tw (Pt.mk (Box.x0 b) (Box.y0 b)) (Pt.mk (Box.x1 b_1) (Box.y1 b_1)) (Pt.mk (Box.x0 b_5) (Box.y1 b_5)))) (tw (Pt.mk (Box.x0 b) (Box.y0 b)) (Pt.mk (Box.x1 b_1) (Box.y1 b_1)) (Pt.mk (Box.x1 b_5) (Box.y0 b_5)))) (tw (Pt.mk (Box.x0 b) (Box.y0 b)) (Pt.mk (Box.x1 b_1) (Box.y1 b_1)) (Pt.mk (Box.x1 b_5) (Box.y1 b_5)))) (tw (Pt.mk (Box.x0 b) (Box.y1 b)) (Pt.mk (Box.x0 b_6) (Box.y0 b_6)) (Pt.mk (Box.x0 b_7) (Box.y0 b_7)))) (tw (Pt.mk (Box.x0 b) (Box.y1 b)) (Pt.mk (Box.x0 b_6) (Box.y0 b_6)) (Pt.mk (Box.x0 b_7) (Box.y1 b_7)))) (tw (Pt.mk (Box.x0 b) (Box.y1 b)) (Pt.mk (Box.x0 b_6) (Box.y0 b_6)) (Pt.mk (Box.x1 b_7) (Box.y0 b_7)))) (tw (Pt.mk (Box.x0 b) (Box.y1 b)) (Pt.mk (Box.x0 b_6) (Box.y0 b_6)) (Pt.mk (Box.x1 b_7) (Box.y1 b_7)))) (tw (Pt.mk (Box.x0 b) (Box.y1 b)) (Pt.mk (Box.x0 b_6) (Box.y1 b_6)) (Pt.mk (Box.x0 b_8) (Box.y0 b_8)))) (tw (Pt.mk (Box.x0 b) (Box.y1 b)) (Pt.mk (Box.x0 b_6) (Box.y1 b_6)) (Pt.mk (Box.x0 b_8) (Box.y1 b_8)))) (tw (Pt.mk (Box.x0 b) (Box.y1 b)) (Pt.mk (Box.x0 b_6) (Box.y1 b_6)) (Pt.mk (Box.x1 b_8) (Box.y0 b_8)))) (tw (Pt.mk (Box.x0 b) (Box.y1 b)) (Pt.mk (Box.x0 b_6) (Box.y1 b_6)) (Pt.mk (Box.x1 b_8) (Box.y1 b_8)))) (tw (Pt.mk (Box.x0 b) (Box.y1 b)) (Pt.mk (Box.x1 b_6) (Box.y0 b_6)) (Pt.mk (Box.x0 b_9) (Box.y0 b_9)))) (tw (Pt.mk (Box.x0 b) (Box.y1 b)) (Pt.mk (Box.x1 b_6) (Box.y0 b_6)) (Pt.mk (Box.x0 b_9) (Box.y1 b_9)))) (tw (Pt.mk (Box.x0 b) (Box.y1 b)) (Pt.mk (Box.x1 b_6) (Box.y0 b_6)) (Pt.mk (Box.x1 b_9) (Box.y0 b_9)))) (tw (Pt.mk (Box.x0 b) (Box.y1 b)) (Pt.mk (Box.x1 b_6) (Box.y0 b_6)) (Pt.mk (Box.x1 b_9) (Box.y1 b_9)))) (tw (Pt.mk (Box.x0 b) (Box.y1 b)) (Pt.mk (Box.x1 b_6) (Box.y1 b_6)) (Pt.mk (Box.x0 b_10) (Box.y0 b_10)))) (tw (Pt.mk (Box.x0 b) (Box.y1 b)) (Pt.mk (Box.x1 b_6) (Box.y1 b_6)) (Pt.mk (Box.x0 b_10) (Box.y1 b_10)))) (tw (Pt.mk (Box.x0 b) (Box.y1 b)) (Pt.mk (Box.x1 b_6) (Box.y1 b_6)) (Pt.mk (Box.x1 b_10) (Box.y0 b_10)))) (tw (Pt.mk (Box.x0 b) (Box.y1 b)) (Pt.mk (Box.x1 b_6) (Box.y1 b_6)) (Pt.mk (Box.x1 b_10) (Box.y1 b_10)))) (tw (Pt.mk (Box.x1 b) (Box.y0 b)) (Pt.mk (Box.x0 b_11) (Box.y0 b_11)) (Pt.mk (Box.x0 b_12) (Box.y0 b_12)))) (tw (Pt.mk (Box.x1 b) (Box.y0 b)) (Pt.mk (Box.x0 b_11) (Box.y0 b_11)) (Pt.mk (Box.x0 b_12) (Box.y1 b_12)))) (tw (Pt.mk (Box.x1 b) (Box.y0 b)) (Pt.mk (Box.x0 b_11) (Box.y0 b_11)) (Pt.mk (Box.x1 b_12) (Box.y0 b_12)))) (tw (Pt.mk (Box.x1 b) (Box.y0 b)) (Pt.mk (Box.x0 b_11) (Box.y0 b_11)) (Pt.mk (Box.x1 b_12) (Box.y1 b_12)))) (tw (Pt.mk (Box.x1 b) (Box.y0 b)) (Pt.mk (Box.x0 b_11) (Box.y1 b_11)) (Pt.mk (Box.x0 b_13) (Box.y0 b_13)))) (tw (Pt.mk (Box.x1 b) (Box.y0 b)) (Pt.mk (Box.x0 b_11) (Box.y1 b_11)) (Pt.mk (Box.x0 b_13) (Box.y1 b_13)))) (tw (Pt.mk (Box.x1 b) (Box.y0 b)) (Pt.mk (Box.x0 b_11) (Box.y1 b_11)) (Pt.mk (Box.x1 b_13) (Box.y0 b_13)))) (tw (Pt.mk (Box.x1 b) (Box.y0 b)) (Pt.mk (Box.x0 b_11) (Box.y1 b_11)) (Pt.mk (Box.x1 b_13) (Box.y1 b_13)))) (tw (Pt.mk (Box.x1 b) (Box.y0 b)) (Pt.mk (Box.x1 b_11) (Box.y0 b_11)) (Pt.mk (Box.x0 b_14) (Box.y0 b_14)))) (tw (Pt.mk (Box.x1 b) (Box.y0 b)) (Pt.mk (Box.x1 b_11) (Box.y0 b_11)) (Pt.mk (Box.x0 b_14) (Box.y1 b_14)))) (tw (Pt.mk (Box.x1 b) (Box.y0 b)) (Pt.mk (Box.x1 b_11) (Box.y0 b_11)) (Pt.mk (Box.x1 b_14) (Box.y0 b_14)))) (tw (Pt.mk (Box.x1 b) (Box.y0 b)) (Pt.mk (Box.x1 b_11) (Box.y0 b_11)) (Pt.mk (Box.x1 b_14) (Box.y1 b_14)))) (tw (Pt.mk (Box.x1 b) (Box.y0 b)) (Pt.mk (Box.x1 b_11) (Box.y1 b_11)) (Pt.mk (Box.x0 b_15) (Box.y0 b_15)))) (tw (Pt.mk (Box.x1 b) (Box.y0 b)) (Pt.mk (Box.x1 b_11) (Box.y1 b_11)) (Pt.mk (Box.x0 b_15) (Box.y1 b_15)))) (tw (Pt.mk (Box.x1 b) (Box.y0 b)) (Pt.mk (Box.x1 b_11) (Box.y1 b_11)) (Pt.mk (Box.x1 b_15) (Box.y0 b_15)))) (tw (Pt.mk (Box.x1 b) (Box.y0 b)) (Pt.mk (Box.x1 b_11) (Box.y1 b_11)) (Pt.mk (Box.x1 b_15) (Box.y1 b_15)))) (tw (Pt.mk (Box.x1 b) (Box.y1 b)) (Pt.mk (Box.x0 b_16) (Box.y0 b_16)) (Pt.mk (Box.x0 b_17) (Box.y0 b_17)))) (tw (Pt.mk (Box.x1 b) (Box.y1 b)) (Pt.mk (Box.x0 b_16) (Box.y0 b_16)) (Pt.mk (Box.x0 b_17) (Box.y1 b_17)))) (tw (Pt.mk (Box.x1 b) (Box.y1 b)) (Pt.mk (Box.x0 b_16) (Box.y0 b_16)) (Pt.mk (Box.x1 b_17) (Box.y0 b_17)))) (tw (Pt.mk (Box.x1 b) (Box.y1 b)) (Pt.mk (Box.x0 b_16) (Box.y0 b_16)) (Pt.mk (Box.x1 b_17) (Box.y1 b_17)))) (tw (Pt.mk (Box.x1 b) (Box.y1 b)) (Pt.mk (Box.x0 b_16) (Box.y1 b_16)) (Pt.mk (Box.x0 b_18) (Box.y0 b_18)))) (tw (Pt.mk (Box.x1 b) (Box.y1 b)) (Pt.mk (Box.x0 b_16) (Box.y1 b_16)) (Pt.mk (Box.x0 b_18) (Box.y1 b_18)))) (tw (Pt.mk (Box.x1 b) (Box.y1 b)) (Pt.mk (Box.x0 b_16) (Box.y1 b_16)) (Pt.mk (Box.x1 b_18) (Box.y0 b_18)))) (tw (Pt.mk (Box.x1 b) (Box.y1 b)) (Pt.mk (Box.x0 b_16) (Box.y1 b_16)) (Pt.mk (Box.x1 b_18) (Box.y1 b_18)))) (tw (Pt.mk (Box.x1 b) (Box.y1 b)) (Pt.mk (Box.x1 b_16) (Box.y0 b_16)) (Pt.mk (Box.x0 b_19) (Box.y0 b_19)))) (tw (Pt.mk (Box.x1 b) (Box.y1 b)) (Pt.mk (Box.x1 b_16) (Box.y0 b_16)) (Pt.mk (Box.x0 b_19) (Box.y1 b_19)))) (tw (Pt.mk (Box.x1 b) (Box.y1 b)) (Pt.mk (Box.x1 b_16) (Box.y0 b_16)) (Pt.mk (Box.x1 b_19) (Box.y0 b_19)))) (tw (Pt.mk (Box.x1 b) (Box.y1 b)) (Pt.mk (Box.x1 b_16) (Box.y0 b_16)) (Pt.mk (Box.x1 b_19) (Box.y1 b_19)))) (tw (Pt.mk (Box.x1 b) (Box.y1 b)) (Pt.mk (Box.x1 b_16) (Box.y1 b_16)) (Pt.mk (Box.x0 b_20) (Box.y0 b_20)))) (tw (Pt.mk (Box.x1 b) (Box.y1 b)) (Pt.mk (Box.x1 b_16) (Box.y1 b_16)) (Pt.mk (Box.x0 b_20) (Box.y1 b_20)))) (tw (Pt.mk (Box.x1 b) (Box.y1 b)) (Pt.mk (Box.x1 b_16) (Box.y1 b_16)) (Pt.mk (Box.x1 b_20) (Box.y0 b_20)))) (tw (Pt.mk (Box.x1 b) (Box.y1 b)) (Pt.mk (Box.x1 b_16) (Box.y1 b_16)) (Pt.mk (Box.x1 b_20) (Box.y1 b_20)))) (mx (mx (mx (mx (mx (mx (mx (mx (mx (mx (mx (mx (mx (mx (mx (mx (mx (mx (mx (mx (mx (mx (mx (mx (mx (mx (mx (mx (mx (mx (mx (mx (mx (mx (mx (mx (mx (mx (mx (mx (mx (mx (mx (mx (mx (mx (mx (mx (mx (mx (mx (mx (mx (mx (mx (mx (mx (mx (mx (mx (mx (mx (mx (mx (tw (Pt.mk (Box.x0 b) (Box.y0 b)) (Pt.mk (Box.x0 b_1) (Box.y0 b_1)) (Pt.mk (Box.x0 b_2) (Box.y0 b_2))) (tw (Pt.mk (Box.x0 b) (Box.y0 b)) (Pt.mk (Box.x0 b_1) (Box.y0 b_1)) (Pt.mk (Box.x0 b_2) (Box.y0 b_2)))) (tw (Pt.mk (Box.x0 b) (Box.y0 b)) (Pt.mk (Box.x0 b_1) (Box.y0 b_1)) (Pt.mk (Box.x0 b_2) (Box.y1 b_2)))) (tw (Pt.mk (Box.x0 b) (Box.y0 b)) (Pt.mk (Box.x0 b_1) (Box.y0 b_1)) (Pt.mk (Box.x1 b_2) (Box.y0 b_2)))) (tw (Pt.mk (Box.x0 b) (Box.y0 b)) (Pt.mk (Box.x0 b_1) (Box.y0 b_1)) (Pt.mk (Box.x1 b_2) (Box.y1 b_2)))) (tw (Pt.mk (Box.x0 b) (Box.y0 b)) (Pt.mk (Box.x0 b_1) (Box.y1 b_1)) (Pt.mk (Box.x0 b_3) (Box.y0 b_3)))) (tw (Pt.mk (Box.x0 b) (Box.y0 b)) (Pt.mk (Box.x0 b_1) (Box.y1 b_1)) (Pt.mk (Box.x0 b_3) (Box.y1 b_3)))) (tw (Pt.mk (Box.x0 b) (Box.y0 b)) (Pt.mk (Box.x0 b_1) (Box.y1 b_1)) (Pt.mk (Box.x1 b_3) (Box.y0 b_3)))) (tw (Pt.mk (Box.x0 b) (Box.y0 b)) (Pt.mk (Box.x0 b_1) (Box.y1 b_1)) (Pt.mk (Box.x1 b_3) (Box.y1 b_3)))) (tw (Pt.mk (Box.x0 b) (Box.y0 b)) (Pt.mk (Box.x1 b_1) (Box.y0 b_1)) (Pt.mk (Box.x0 b_4) (Box.y0 b_4)))) (tw (Pt.mk (Box.x0 b) (Box.y0 b)) (Pt.mk (Box.x1 b_1) (Box.y0 b_1)) (Pt.mk (Box.x0 b_4) (Box.y1 b_4)))) (tw (Pt.mk (Box.x0 b) (Box.y0 b)) (Pt.mk (Box.x1 b_1) (Box.y0 b_1)) (Pt.mk (Box.x1 b_4) (Box.y0 b_4)))) (tw (Pt.mk (Box.x0 b) (Box.y0 b)) (Pt.mk (Box.x1 b_1) (Box.y0 b_1)) (Pt.mk (Box.x1 b_4) (Box.y1 b_4)))) (tw (Pt.mk (Box.x0 b) (Box.y0 b)) (Pt.mk (Box.x1 b_1) (Box.y1 b_1)) (Pt.mk (Box.x0 b_5) (Box.y0 b_5)))) (tw (Pt.mk (Box.x0 b) (Box.y0 b)) (Pt.mk (Box.x1 b_1) (Box.y1 b_1)) (Pt.mk (Box.x0 b_5) (Box.y1 b_5)))) (tw (Pt.mk (Box.x0 b) (Box.y0 b)) (Pt.mk (Box.x1 b_1) (Box.y1 b_1)) (Pt.mk (Box.x1 b_5) (Box.y0 b_5)))) (tw (Pt.mk (Box.x0 b) (Box.y0 b)) (Pt.mk (Box.x1 b_1) (Box.y1 b_1)) (Pt.mk (Box.x1 b_5) (Box.y1 b_5)))) (tw (Pt.mk (Box.x0 b) (Box.y1 b)) (Pt.mk (Box.x0 b_6) (Box.y0 b_6)) (Pt.mk (Box.x0 b_7) (Box.y0 b_7)))) (tw (Pt.mk (Box.x0 b) (Box.y1 b)) (Pt.mk (Box.x0 b_6) (Box.y0 b_6)) (Pt.mk (Box.x0 b_7) (Box.y1 b_7)))) (tw (Pt.mk (Box.x0 b) (Box.y1 b)) (Pt.mk (Box.x0 b_6) (Box.y0 b_6)) (Pt.mk (Box.x1 b_7) (Box.y0 b_7)))) (tw (Pt.mk (Box.x0 b) (Box.y1 b)) (Pt.mk (Box.x0 b_6) (Box.y0 b_6)) (Pt.mk (Box.x1 b_7) (Box.y1 b_7)))) (tw (Pt.mk (Box.x0 b) (Box.y1 b)) (Pt.mk (Box.x0 b_6) (Box.y1 b_6)) (Pt.mk (Box.x0 b_8) (Box.y0 b_8)))) (tw (Pt.mk (Box.x0 b) (Box.y1 b)) (Pt.mk (Box.x0 b_6) (Box.y1 b_6)) (Pt.mk (Box.x0 b_8) (Box.y1 b_8)))) (tw (Pt.mk (Box.x0 b) (Box.y1 b)) (Pt.mk (Box.x0 b_6) (Box.y1 b_6)) (Pt.mk (Box.x1 b_8) (Box.y0 b_8)))) (tw (Pt.mk (Box.x0 b) (Box.y1 b)) (Pt.mk (Box.x0 b_6) (Box.y1 b_6)) (Pt.mk (Box.x1 b_8) (Box.y1 b_8)))) (tw (Pt.mk (Box.x0 b) (Box.y1 b)) (Pt.mk (Box.x1 b_6) (Box.y0 b_6)) (Pt.mk (Box.x0 b_9) (Box.y0 b_9)))) (tw (Pt.mk (Box.x0 b) (Box.y1 b)) (Pt.mk (Box.x1 b_6) (Box.y0 b_6)) (Pt.mk (Box.x0 b_9) (Box.y1 b_9)))) (tw (Pt.mk (Box.x0 b) (Box.y1 b)) (Pt.mk (Box.x1 b_6) (Box.y0 b_6)) (Pt.mk (Box.x1 b_9) (Box.y0 b_9)))) (tw (Pt.mk (Box.x0 b) (Box.y1 b)) (Pt.mk (Box.x1 b_6) (Box.y0 b_6)) (Pt.mk (Box.x1 b_9) (Box.y1 b_9)))) (tw (Pt.mk (Box.x0 b) (Box.y1 b)) (Pt.mk (Box.x1 b_6) (Box.y1 b_6)) (Pt.mk (Box.x0 b_10) (Box.y0 b_10)))) (tw (Pt.mk (Box.x0 b) (Box.y1 b)) (Pt.mk (Box.x1 b_6) (Box.y1 b_6)) (Pt.mk (Box.x0 b_10) (Box.y1 b_10)))) (tw (Pt.mk (Box.x0 b) (Box.y1 b)) (Pt.mk (Box.x1 b_6) (Box.y1 b_6)) (Pt.mk (Box.x1 b_10) (Box.y0 b_10)))) (tw (Pt.mk (Box.x0 b) (Box.y1 b)) (Pt.mk (Box.x1 b_6) (Box.y1 b_6)) (Pt.mk (Box.x1 b_10) (Box.y1 b_10)))) (tw (Pt.mk (Box.x1 b) (Box.y0 b)) (Pt.mk (Box.x0 b_11) (Box.y0 b_11)) (Pt.mk (Box.x0 b_12) (Box.y0 b_12)))) (tw (Pt.mk (Box.x1 b) (Box.y0 b)) (Pt.mk (Box.x0 b_11) (Box.y0 b_11)) (Pt.mk (Box.x0 b_12) (Box.y1 b_12)))) (tw (Pt.mk (Box.x1 b) (Box.y0 b)) (Pt.mk (Box.x0 b_11) (Box.y0 b_11)) (Pt.mk (Box.x1 b_12) (Box.y0 b_12)))) (tw (Pt.mk (Box.x1 b) (Box.y0 b)) (Pt.mk (Box.x0 b_11) (Box.y0 b_11)) (Pt.mk (Box.x1 b_12) (Box.y1 b_12)))) (tw (Pt.mk (Box.x1 b) (Box.y0 b)) (Pt.mk (Box.x0 b_11) (Box.y1 b_11)) (Pt.mk (Box.x0 b_13) (Box.y0 b_13)))) (tw (Pt.mk (Box.x1 b) (Box.y0 b)) (Pt.mk (Box.x0 b_11) (Box.y1 b_11)) (Pt.mk (Box.x0 b_13) (Box.y1 b_13)))) (tw (Pt.mk (Box.x1 b) (Box.y0 b)) (Pt.mk (Box.x0 b_11) (Box.y1 b_11)) (Pt.mk (Box.x1 b_13) (Box.y0 b_13)))) (tw (Pt.mk (Box.x1 b) (Box.y0 b)) (Pt.mk (Box.x0 b_11) (Box.y1 b_11)) (Pt.mk (Box.x1 b_13) (Box.y1 b_13)))) (tw (Pt.mk (Box.x1 b) (Box.y0 b)) (Pt.mk (Box.x1 b_11) (Box.y0 b_11)) (Pt.mk (Box.x0 b_14) (Box.y0 b_14)))) (tw (Pt.mk (Box.x1 b) (Box.y0 b)) (Pt.mk (Box.x1 b_11) (Box.y0 b_11)) (Pt.mk (Box.x0 b_14) (Box.y1 b_14)))) (tw (Pt.mk (Box.x1 b) (Box.y0 b)) (Pt.mk (Box.x1 b_11) (Box.y0 b_11)) (Pt.mk (Box.x1 b_14) (Box.y0 b_14)))) (tw (Pt.mk (Box.x1 b) (Box.y0 b)) (Pt.mk (Box.x1 b_11) (Box.y0 b_11)) (Pt.mk (Box.x1 b_14) (Box.y1 b_14)))) (tw (Pt.mk (Box.x1 b) (Box.y0 b)) (Pt.mk (Box.x1 b_11) (Box.y1 b_11)) (Pt.mk (Box.x0 b_15) (Box.y0 b_15)))) (tw (Pt.mk (Box.x1 b) (Box.y0 b)) (Pt.mk (Box.x1 b_11) (Box.y1 b_11)) (Pt.mk (Box.x0 b_15) (Box.y1 b_15)))) (tw (Pt.mk (Box.x1 b) (Box.y0 b)) (Pt.mk (Box.x1 b_11) (Box.y1 b_11)) (Pt.mk (Box.x1 b_15) (Box.y0 b_15)))) (tw (Pt.mk (Box.x1 b) (Box.y0 b)) (Pt.mk (Box.x1 b_11) (Box.y1 b_11)) (Pt.mk (Box.x1 b_15) (Box.y1 b_15)))) (tw (Pt.mk (Box.x1 b) (Box.y1 b)) (Pt.mk (Box.x0 b_16) (Box.y0 b_16)) (Pt.mk (Box.x0 b_17) (Box.y0 b_17)))) (tw (Pt.mk (Box.x1 b) (Box.y1 b)) (Pt.mk (Box.x0 b_16) (Box.y0 b_16)) (Pt.mk (Box.x0 b_17) (Box.y1 b_17)))) (tw (Pt.mk (Box.x1 b) (Box.y1 b)) (Pt.mk (Box.x0 b_16) (Box.y0 b_16)) (Pt.mk (Box.x1 b_17) (Box.y0 b_17)))) (tw (Pt.mk (Box.x1 b) (Box.y1 b)) (Pt.mk (Box.x0 b_16) (Box.y0 b_16)) (Pt.mk (Box.x1 b_17) (Box.y1 b_17)))) (tw (Pt.mk (Box.x1 b) (Box.y1 b)) (Pt.mk (Box.x0 b_16) (Box.y1 b_16)) (Pt.mk (Box.x0 b_18) (Box.y0 b_18)))) (tw (Pt.mk (Box.x1 b) (Box.y1 b)) (Pt.mk (Box.x0 b_16) (Box.y1 b_16)) (Pt.mk (Box.x0 b_18) (Box.y1 b_18)))) (tw (Pt.mk (Box.x1 b) (Box.y1 b)) (Pt.mk (Box.x0 b_16) (Box.y1 b_16)) (Pt.mk (Box.x1 b_18) (Box.y0 b_18)))) (tw (Pt.mk (Box.x1 b) (Box.y1 b)) (Pt.mk (Box.x0 b_16) (Box.y1 b_16)) (Pt.mk (Box.x1 b_18) (Box.y1 b_18)))) (tw (Pt.mk (Box.x1 b) (Box.y1 b)) (Pt.mk (Box.x1 b_16) (Box.y0 b_16)) (Pt.mk (Box.x0 b_19) (Box.y0 b_19)))) (tw (Pt.mk (Box.x1 b) (Box.y1 b)) (Pt.mk (Box.x1 b_16) (Box.y0 b_16)) (Pt.mk (Box.x0 b_19) (Box.y1 b_19)))) (tw (Pt.mk (Box.x1 b) (Box.y1 b)) (Pt.mk (Box.x1 b_16) (Box.y0 b_16)) (Pt.mk (Box.x1 b_19) (Box.y0 b_19)))) (tw (Pt.mk (Box.x1 b) (Box.y1 b)) (Pt.mk (Box.x1 b_16) (Box.y0 b_16)) (Pt.mk (Box.x1 b_19) (Box.y1 b_19)))) (tw (Pt.mk (Box.x1 b) (Box.y1 b)) (Pt.mk (Box.x1 b_16) (Box.y1 b_16)) (Pt.mk (Box.x0 b_20) (Box.y0 b_20)))) (tw (Pt.mk (Box.x1 b) (Box.y1 b)) (Pt.mk (Box.x1 b_16) (Box.y1 b_16)) (Pt.mk (Box.x0 b_20) (Box.y1 b_20)))) (tw (Pt.mk (Box.x1 b) (Box.y1 b)) (Pt.mk (Box.x1 b_16) (Box.y1 b_16)) (Pt.mk (Box.x1 b_20) (Box.y0 b_20)))) (tw (Pt.mk (Box.x1 b) (Box.y1 b)) (Pt.mk (Box.x1 b_16) (Box.y1 b_16)) (Pt.mk (Box.x1 b_20) (Box.y1 b_20))))) (Sn.mk flo fhi)), V.bool (mustV (Sn.mk (mn (mn (mn (mn (mn (mn (mn (mn (mn (mn (mn (mn (mn (mn (mn (mn (mn (mn (mn (mn (mn (mn (mn (mn (mn (mn (mn (mn (mn (mn (mn (mn (mn (mn (mn (mn (mn (mn (mn (mn (mn (mn (mn (mn (mn (mn (mn (mn (mn (mn (mn (mn (mn (mn (mn (mn (mn (mn (mn (mn (mn (mn (mn (mn (tw (Pt.mk (Box.x0 b) (Box.y0 b)) (Pt.mk (Box.x0 b_1) (Box.y0 b_1)) (Pt.mk (Box.x0 b_2) (Box.y0 b_2))) (tw (Pt.mk (Box.x0 b) (Box.y0 b)) (Pt.mk (Box.x0 b_1) (Box.y0 b_1)) (Pt.mk (Box.x0 b_2) (Box.y0 b_2)))) (tw (Pt.mk (Box.x0 b) (Box.y0 b)) (Pt.mk (Box.x0 b_1) (Box.y0 b_1)) (Pt.mk (Box.x0 b_2) (Box.y1 b_2)))) (tw (Pt.mk (Box.x0 b) (Box.y0 b)) (Pt.mk (Box.x0 b_1) (Box.y0 b_1)) (Pt.mk (Box.x1 b_2) (Box.y0 b_2)))) (tw (Pt.mk (Box.x0 b) (Box.y0 b)) (Pt.mk (Box.x0 b_1) (Box.y0 b_1)) (Pt.mk (Box.x1 b_2) (Box.y1 b_2)))) (tw (Pt.mk (Box.x0 b) (Box.y0 b)) (Pt.mk (Box.x0 b_1) (Box.y1 b_1)) (Pt.mk (Box.x0 b_3) (Box.y0 b_3)))) (tw (Pt.mk (Box.x0 b) (Box.y0 b)) (Pt.mk (Box.x0 b_1) (Box.y1 b_1)) (Pt.mk (Box.x0 b_3) (Box.y1 b_3)))) (tw (Pt.mk (Box.x0 b) (Box.y0 b)) (Pt.mk (Box.x0 b_1) (Box.y1 b_1)) (Pt.mk (Box.x1 b_3) (Box.y0 b_3)))) (tw (Pt.mk (Box.x0 b) (Box.y0 b)) (Pt.mk (Box.x0 b_1) (Box.y1 b_1)) (Pt.mk (Box.x1 b_3) (Box.y1 b_3)))) (tw (Pt.mk (Box.x0 b) (Box.y0 b)) (Pt.mk (Box.x1 b_1) (Box.y0 b_1)) (Pt.mk (Box.x0 b_4) (Box.y0 b_4)))) (tw (Pt.mk (Box.x0 b) (Box.y0 b)) (Pt.mk (Box.x1 b_1) (Box.y0 b_1)) (Pt.mk (Box.x0 b_4) (Box.y1 b_4)))) (tw (Pt.mk (Box.x0 b) (Box.y0 b)) (Pt.mk (Box.x1 b_1) (Box.y0 b_1)) (Pt.mk (Box.x1 b_4) (Box.y0 b_4)))) (tw (Pt.mk (Box.x0 b) (Box.y0 b)) (Pt.mk (Box.x1 b_1) (Box.y0 b_1)) (Pt.mk (Box.x1 b_4) (Box.y1 b_4)))) (tw (Pt.mk (Box.x0 b) (Box.y0 b)) (Pt.mk (Box.x1 b_1) (Box.y1 b_1)) (Pt.mk (Box.x0 b_5) (Box.y0 b_5)))) (tw (Pt.mk (Box.x0 b) (Box.y0 b)) (Pt.mk (Box.x1 b_1) (Box.y1 b_1)) (Pt.mk (Box.x0 b_5) (Box.y1 b_5)))) (tw (Pt.mk (Box.x0 b) (Box.y0 b)) (Pt.mk (Box.x1 b_1) (Box.y1 b_1)) (Pt.mk (Box.x1 b_5) (Box.y0 b_5)))) (tw (Pt.mk (Box.x0 b) (Box.y0 b)) (Pt.mk (Box.x1 b_1) (Box.y1 b_1)) (Pt.mk (Box.x1 b_5) (Box.y1 b_5)))) (tw (Pt.mk (Box.x0 b) (Box.y1 b)) (Pt.mk (Box.x0 b_6) (Box.y0 b_6)) (Pt.mk (Box.x0 b_7) (Box.y0 b_7)))) (tw (Pt.mk (Box.x0 b) (Box.y1 b)) (Pt.mk (Box.x0 b_6) (Box.y0 b_6)) (Pt.mk (Box.x0 b_7) (Box.y1 b_7)))) (tw (Pt.mk (Box.x0 b) (Box.y1 b)) (Pt.mk (Box.x0 b_6) (Box.y0 b_6)) (Pt.mk (Box.x1 b_7) (Box.y0 b_7)))) (tw (Pt.mk (Box.x0 b) (Box.y1 b)) (Pt.mk (Box.x0 b_6) (Box.y0 b_6)) (Pt.mk (Box.x1 b_7) (Box.y1 b_7)))) (tw (Pt.mk (Box.x0 b) (Box.y1 b)) (Pt.mk (Box.x0 b_6) (Box.y1 b_6)) (Pt.mk (Box.x0 b_8) (Box.y0 b_8)))) (tw (Pt.mk (Box.x0 b) (Box.y1 b)) (Pt.mk (Box.x0 b_6) (Box.y1 b_6)) (Pt.mk (Box.x0 b_8) (Box.y1 b_8)))) (tw (Pt.mk (Box.x0 b) (Box.y1 b)) (Pt.mk (Box.x0 b_6) (Box.y1 b_6)) (Pt.mk (Box.x1 b_8) (Box.y0 b_8)))) (tw (Pt.mk (Box.x0 b) (Box.y1 b)) (Pt.mk (Box.x0 b_6) (Box.y1 b_6)) (Pt.mk (Box.x1 b_8) (Box.y1 b_8)))) (tw (Pt.mk (Box.x0 b) (Box.y1 b)) (Pt.mk (Box.x1 b_6) (Box.y0 b_6)) (Pt.mk (Box.x0 b_9) (Box.y0 b_9)))) (tw (Pt.mk (Box.x0 b) (Box.y1 b)) (Pt.mk (Box.x1 b_6) (Box.y0 b_6)) (Pt.mk (Box.x0 b_9) (Box.y1 b_9)))) (tw (Pt.mk (Box.x0 b) (Box.y1 b)) (Pt.mk (Box.x1 b_6) (Box.y0 b_6)) (Pt.mk (Box.x1 b_9) (Box.y0 b_9)))) (tw (Pt.mk (Box.x0 b) (Box.y1 b)) (Pt.mk (Box.x1 b_6) (Box.y0 b_6)) (Pt.mk (Box.x1 b_9) (Box.y1 b_9)))) (tw (Pt.mk (Box.x0 b) (Box.y1 b)) (Pt.mk (Box.x1 b_6) (Box.y1 b_6)) (Pt.mk (Box.x0 b_10) (Box.y0 b_10)))) (tw (Pt.mk (Box.x0 b) (Box.y1 b)) (Pt.mk (Box.x1 b_6) (Box.y1 b_6)) (Pt.mk (Box.x0 b_10) (Box.y1 b_10)))) (tw (Pt.mk (Box.x0 b) (Box.y1 b)) (Pt.mk (Box.x1 b_6) (Box.y1 b_6)) (Pt.mk (Box.x1 b_10) (Box.y0 b_10)))) (tw (Pt.mk (Box.x0 b) (Box.y1 b)) (Pt.mk (Box.x1 b_6) (Box.y1 b_6)) (Pt.mk (Box.x1 b_10) (Box.y1 b_10)))) (tw (Pt.mk (Box.x1 b) (Box.y0 b)) (Pt.mk (Box.x0 b_11) (Box.y0 b_11)) (Pt.mk (Box.x0 b_12) (Box.y0 b_12)))) (tw (Pt.mk (Box.x1 b) (Box.y0 b)) (Pt.mk (Box.x0 b_11) (Box.y0 b_11)) (Pt.mk (Box.x0 b_12) (Box.y1 b_12)))) (tw (Pt.mk (Box.x1 b) (Box.y0 b)) (Pt.mk (Box.x0 b_11) (Box.y0 b_11)) (Pt.mk (Box.x1 b_12) (Box.y0 b_12)))) (tw (Pt.mk (Box.x1 b) (Box.y0 b)) (Pt.mk (Box.x0 b_11) (Box.y0 b_11)) (Pt.mk (Box.x1 b_12) (Box.y1 b_12)))) (tw (Pt.mk (Box.x1 b) (Box.y0 b)) (Pt.mk (Box.x0 b_11) (Box.y1 b_11)) (Pt.mk (Box.x0 b_13) (Box.y0 b_13)))) (tw (Pt.mk (Box.x1 b) (Box.y0 b)) (Pt.mk (Box.x0 b_11) (Box.y1 b_11)) (Pt.mk (Box.x0 b_13) (Box.y1 b_13)))) (tw (Pt.mk (Box.x1 b) (Box.y0 b)) (Pt.mk (Box.x0 b_11) (Box.y1 b_11)) (Pt.mk (Box.x1 b_13) (Box.y0 b_13)))) (tw (Pt.mk (Box.x1 b) (Box.y0 b)) (Pt.mk (Box.x0 b_11) (Box.y1 b_11)) (Pt.mk (Box.x1 b_13) (Box.y1 b_13)))) (tw (Pt.mk (Box.x1 b) (Box.y0 b)) (Pt.mk (Box.x1 b_11) (Box.y0 b_11)) (Pt.mk (Box.x0 b_14) (Box.y0 b_14)))) (tw (Pt.mk (Box.x1 b) (Box.y0 b)) (Pt.mk (Box.x1 b_11) (Box.y0 b_11)) (Pt.mk (Box.x0 b_14) (Box.y1 b_14)))) (tw (Pt.mk (Box.x1 b) (Box.y0 b)) (Pt.mk (Box.x1 b_11) (Box.y0 b_11)) (Pt.mk (Box.x1 b_14) (Box.y0 b_14)))) (tw (Pt.mk (Box.x1 b) (Box.y0 b)) (Pt.mk (Box.x1 b_11) (Box.y0 b_11)) (Pt.mk (Box.x1 b_14) (Box.y1 b_14)))) (tw (Pt.mk (Box.x1 b) (Box.y0 b)) (Pt.mk (Box.x1 b_11) (Box.y1 b_11)) (Pt.mk (Box.x0 b_15) (Box.y0 b_15)))) (tw (Pt.mk (Box.x1 b) (Box.y0 b)) (Pt.mk (Box.x1 b_11) (Box.y1 b_11)) (Pt.mk (Box.x0 b_15) (Box.y1 b_15)))) (tw (Pt.mk (Box.x1 b) (Box.y0 b)) (Pt.mk (Box.x1 b_11) (Box.y1 b_11)) (Pt.mk (Box.x1 b_15) (Box.y0 b_15)))) (tw (Pt.mk (Box.x1 b) (Box.y0 b)) (Pt.mk (Box.x1 b_11) (Box.y1 b_11)) (Pt.mk (Box.x1 b_15) (Box.y1 b_15)))) (tw (Pt.mk (Box.x1 b) (Box.y1 b)) (Pt.mk (Box.x0 b_16) (Box.y0 b_16)) (Pt.mk (Box.x0 b_17) (Box.y0 b_17)))) (tw (Pt.mk (Box.x1 b) (Box.y1 b)) (Pt.mk (Box.x0 b_16) (Box.y0 b_16)) (Pt.mk (Box.x0 b_17) (Box.y1 b_17)))) (tw (Pt.mk (Box.x1 b) (Box.y1 b)) (Pt.mk (Box.x0 b_16) (Box.y0 b_16)) (Pt.mk (Box.x1 b_17) (Box.y0 b_17)))) (tw (Pt.mk (Box.x1 b) (Box.y1 b)) (Pt.mk (Box.x0 b_16) (Box.y0 b_16)) (Pt.mk (Box.x1 b_17) (Box.y1 b_17)))) (tw (Pt.mk (Box.x1 b) (Box.y1 b)) (Pt.mk (Box.x0 b_16) (Box.y1 b_16)) (Pt.mk (Box.x0 b_18) (Box.y0 b_18)))) (tw (Pt.mk (Box.x1 b) (Box.y1 b)) (Pt.mk (Box.x0 b_16) (Box.y1 b_16)) (Pt.mk (Box.x0 b_18) (Box.y1 b_18)))) (tw (Pt.mk (Box.x1 b) (Box.y1 b)) (Pt.mk (Box.x0 b_16) (Box.y1 b_16)) (Pt.mk (Box.x1 b_18) (Box.y0 b_18)))) (tw (Pt.mk (Box.x1 b) (Box.y1 b)) (Pt.mk (Box.x0 b_16) (Box.y1 b_16)) (Pt.mk (Box.x1 b_18) (Box.y1 b_18)))) (tw (Pt.mk (Box.x1 b) (Box.y1 b)) (Pt.mk (Box.x1 b_16) (Box.y0 b_16)) (Pt.mk (Box.x0 b_19) (Box.y0 b_19)))) (tw (Pt.mk (Box.x1 b) (Box.y1 b)) (Pt.mk (Box.x1 b_16) (Box.y0 b_16)) (Pt.mk (Box.x0 b_19) (Box.y1 b_19)))) (tw (Pt.mk (Box.x1 b) (Box.y1 b)) (Pt.mk (Box.x1 b_16) (Box.y0 b_16)) (Pt.mk (Box.x1 b_19) (Box.y0 b_19)))) (tw (Pt.mk (Box.x1 b) (Box.y1 b)) (Pt.mk (Box.x1 b_16) (Box.y0 b_16)) (Pt.mk (Box.x1 b_19) (Box.y1 b_19)))) (tw (Pt.mk (Box.x1 b) (Box.y1 b)) (Pt.mk (Box.x1 b_16) (Box.y1 b_16)) (Pt.mk (Box.x0 b_20) (Box.y0 b_20)))) (tw (Pt.mk (Box.x1 b) (Box.y1 b)) (Pt.mk (Box.x1 b_16) (Box.y1 b_16)) (Pt.mk (Box.x0 b_20) (Box.y1 b_20)))) (tw (Pt.mk (Box.x1 b) (Box.y1 b)) (Pt.mk (Box.x1 b_16) (Box.y1 b_16)) (Pt.mk (Box.x1 b_20) (Box.y0 b_20)))) (tw (Pt.mk (Box.x1 b) (Box.y1 b)) (Pt.mk (Box.x1 b_16) (Box.y1 b_16)) (Pt.mk (Box.x1 b_20) (Box.y1 b_20)))) (mx (mx (mx (mx (mx (mx (mx (mx (mx (mx (mx (mx (mx (mx (mx (mx (mx (mx (mx (mx (mx (mx (mx (mx (mx (mx (mx (mx (mx (mx (mx (mx (mx (mx (mx (mx (mx (mx (mx (mx (mx (mx (mx (mx (mx (mx (mx (mx (mx (mx (mx (mx (mx (mx (mx (mx (mx (mx (mx (mx (mx (mx (mx (mx (tw (Pt.mk (Box.x0 b) (Box.y0 b)) (Pt.mk (Box.x0 b_1) (Box.y0 b_1)) (Pt.mk (Box.x0 b_2) (Box.y0 b_2))) (tw (Pt.mk (Box.x0 b) (Box.y0 b)) (Pt.mk (Box.x0 b_1) (Box.y0 b_1)) (Pt.mk (Box.x0 b_2) (Box.y0 b_2)))) (tw (Pt.mk (Box.x0 b) (Box.y0 b)) (Pt.mk (Box.x0 b_1) (Box.y0 b_1)) (Pt.mk (Box.x0 b_2) (Box.y1 b_2)))) (tw (Pt.mk (Box.x0 b) (Box.y0 b)) (Pt.mk (Box.x0 b_1) (Box.y0 b_1)) (Pt.mk (Box.x1 b_2) (Box.y0 b_2)))) (tw (Pt.mk (Box.x0 b) (Box.y0 b)) (Pt.mk (Box.x0 b_1) (Box.y0 b_1)) (Pt.mk (Box.x1 b_2) (Box.y1 b_2)))) (tw (Pt.mk (Box.x0 b) (Box.y0 b)) (Pt.mk (Box.x0 b_1) (Box.y1 b_1)) (Pt.mk (Box.x0 b_3) (Box.y0 b_3)))) (tw (Pt.mk (Box.x0 b) (Box.y0 b)) (Pt.mk (Box.x0 b_1) (Box.y1 b_1)) (Pt.mk (Box.x0 b_3) (Box.y1 b_3)))) (tw (Pt.mk (Box.x0 b) (Box.y0 b)) (Pt.mk (Box.x0 b_1) (Box.y1 b_1)) (Pt.mk (Box.x1 b_3) (Box.y0 b_3)))) (tw (Pt.mk (Box.x0 b) (Box.y0 b)) (Pt.mk (Box.x0 b_1) (Box.y1 b_1)) (Pt.mk (Box.x1 b_3) (Box.y1 b_3)))) (tw (Pt.mk (Box.x0 b) (Box.y0 b)) (Pt.mk (Box.x1 b_1) (Box.y0 b_1)) (Pt.mk (Box.x0 b_4) (Box.y0 b_4)))) (tw (Pt.mk (Box.x0 b) (Box.y0 b)) (Pt.mk (Box.x1 b_1) (Box.y0 b_1)) (Pt.mk (Box.x0 b_4) (Box.y1 b_4)))) (tw (Pt.mk (Box.x0 b) (Box.y0 b)) (Pt.mk (Box.x1 b_1) (Box.y0 b_1)) (Pt.mk (Box.x1 b_4) (Box.y0 b_4)))) (tw (Pt.mk (Box.x0 b) (Box.y0 b)) (Pt.mk (Box.x1 b_1) (Box.y0 b_1)) (Pt.mk (Box.x1 b_4) (Box.y1 b_4)))) (tw (Pt.mk (Box.x0 b) (Box.y0 b)) (Pt.mk (Box.x1 b_1) (Box.y1 b_1)) (Pt.mk (Box.x0 b_5) (Box.y0 b_5)))) (tw (Pt.mk (Box.x0 b) (Box.y0 b)) (Pt.mk (Box.x1 b_1) (Box.y1 b_1)) (Pt.mk (Box.x0 b_5) (Box.y1 b_5)))) (tw (Pt.mk (Box.x0 b) (Box.y0 b)) (Pt.mk (Box.x1 b_1) (Box.y1 b_1)) (Pt.mk (Box.x1 b_5) (Box.y0 b_5)))) (tw (Pt.mk (Box.x0 b) (Box.y0 b)) (Pt.mk (Box.x1 b_1) (Box.y1 b_1)) (Pt.mk (Box.x1 b_5) (Box.y1 b_5)))) (tw (Pt.mk (Box.x0 b) (Box.y1 b)) (Pt.mk (Box.x0 b_6) (Box.y0 b_6)) (Pt.mk (Box.x0 b_7) (Box.y0 b_7)))) (tw (Pt.mk (Box.x0 b) (Box.y1 b)) (Pt.mk (Box.x0 b_6) (Box.y0 b_6)) (Pt.mk (Box.x0 b_7) (Box.y1 b_7)))) (tw (Pt.mk (Box.x0 b) (Box.y1 b)) (Pt.mk (Box.x0 b_6) (Box.y0 b_6)) (Pt.mk (Box.x1 b_7) (Box.y0 b_7)))) (tw (Pt.mk (Box.x0 b) (Box.y1 b)) (Pt.mk (Box.x0 b_6) (Box.y0 b_6)) (Pt.mk (Box.x1 b_7) (Box.y1 b_7)))) (tw (Pt.mk (Box.x0 b) (Box.y1 b)) (Pt.mk (Box.x0 b_6) (Box.y1 b_6)) (Pt.mk (Box.x0 b_8) (Box.y0 b_8)))) (tw (Pt.mk (Box.x0 b) (Box.y1 b)) (Pt.mk (Box.x0 b_6) (Box.y1 b_6)) (Pt.mk (Box.x0 b_8) (Box.y1 b_8)))) (tw (Pt.mk (Box.x0 b) (Box.y1 b)) (Pt.mk (Box.x0 b_6) (Box.y1 b_6)) (Pt.mk (Box.x1 b_8) (Box.y0 b_8)))) (tw (Pt.mk (Box.x0 b) (Box.y1 b)) (Pt.mk (Box.x0 b_6) (Box.y1 b_6)) (Pt.mk (Box.x1 b_8) (Box.y1 b_8)))) (tw (Pt.mk (Box.x0 b) (Box.y1 b)) (Pt.mk (Box.x1 b_6) (Box.y0 b_6)) (Pt.mk (Box.x0 b_9) (Box.y0 b_9)))) (tw (Pt.mk (Box.x0 b) (Box.y1 b)) (Pt.mk (Box.x1 b_6) (Box.y0 b_6)) (Pt.mk (Box.x0 b_9) (Box.y1 b_9)))) (tw (Pt.mk (Box.x0 b) (Box.y1 b)) (Pt.mk (Box.x1 b_6) (Box.y0 b_6)) (Pt.mk (Box.x1 b_9) (Box.y0 b_9)))) (tw (Pt.mk (Box.x0 b) (Box.y1 b)) (Pt.mk (Box.x1 b_6) (Box.y0 b_6)) (Pt.mk (Box.x1 b_9) (Box.y1 b_9)))) (tw (Pt.mk (Box.x0 b) (Box.y1 b)) (Pt.mk (Box.x1 b_6) (Box.y1 b_6)) (Pt.mk (Box.x0 b_10) (Box.y0 b_10)))) (tw (Pt.mk (Box.x0 b) (Box.y1 b)) (Pt.mk (Box.x1 b_6) (Box.y1 b_6)) (Pt.mk (Box.x0 b_10) (Box.y1 b_10)))) (tw (Pt.mk (Box.x0 b) (Box.y1 b)) (Pt.mk (Box.x1 b_6) (Box.y1 b_6)) (Pt.mk (Box.x1 b_10) (Box.y0 b_10)))) (tw (Pt.mk (Box.x0 b) (Box.y1 b)) (Pt.mk (Box.x1 b_6) (Box.y1 b_6)) (Pt.mk (Box.x1 b_10) (Box.y1 b_10)))) (tw (Pt.mk (Box.x1 b) (Box.y0 b)) (Pt.mk (Box.x0 b_11) (Box.y0 b_11)) (Pt.mk (Box.x0 b_12) (Box.y0 b_12)))) (tw (Pt.mk (Box.x1 b) (Box.y0 b)) (Pt.mk (Box.x0 b_11) (Box.y0 b_11)) (Pt.mk (Box.x0 b_12) (Box.y1 b_12)))) (tw (Pt.mk (Box.x1 b) (Box.y0 b)) (Pt.mk (Box.x0 b_11) (Box.y0 b_11)) (Pt.mk (Box.x1 b_12) (Box.y0 b_12)))) (tw (Pt.mk (Box.x1 b) (Box.y0 b)) (Pt.mk (Box.x0 b_11) (Box.y0 b_11)) (Pt.mk (Box.x1 b_12) (Box.y1 b_12)))) (tw (Pt.mk (Box.x1 b) (Box.y0 b)) (Pt.mk (Box.x0 b_11) (Box.y1 b_11)) (Pt.mk (Box.x0 b_13) (Box.y0 b_13)))) (tw (Pt.mk (Box.x1 b) (Box.y0 b)) (Pt.mk (Box.x0 b_11) (Box.y1 b_11)) (Pt.mk (Box.x0 b_13) (Box.y1 b_13)))) (tw (Pt.mk (Box.x1 b) (Box.y0 b)) (Pt.mk (Box.x0 b_11) (Box.y1 b_11)) (Pt.mk (Box.x1 b_13) (Box.y0 b_13)))) (tw (Pt.mk (Box.x1 b) (Box.y0 b)) (Pt.mk (Box.x0 b_11) (Box.y1 b_11)) (Pt.mk (Box.x1 b_13) (Box.y1 b_13)))) (tw (Pt.mk (Box.x1 b) (Box.y0 b)) (Pt.mk (Box.x1 b_11) (Box.y0 b_11)) (Pt.mk (Box.x0 b_14) (Box.y0 b_14)))) (tw (Pt.mk (Box.x1 b) (Box.y0 b)) (Pt.mk (Box.x1 b_11) (Box.y0 b_11)) (Pt.mk (Box.x0 b_14) (Box.y1 b_14)))) (tw (Pt.mk (Box.x1 b) (Box.y0 b)) (Pt.mk (Box.x1 b_11) (Box.y0 b_11)) (Pt.mk (Box.x1 b_14) (Box.y0 b_14)))) (tw (Pt.mk (Box.x1 b) (Box.y0 b)) (Pt.mk (Box.x1 b_11) (Box.y0 b_11)) (Pt.mk (Box.x1 b_14) (Box.y1 b_14)))) (tw (Pt.mk (Box.x1 b) (Box.y0 b)) (Pt.mk (Box.x1 b_11) (Box.y1 b_11)) (Pt.mk (Box.x0 b_15) (Box.y0 b_15)))) (tw (Pt.mk (Box.x1 b) (Box.y0 b)) (Pt.mk (Box.x1 b_11) (Box.y1 b_11)) (Pt.mk (Box.x0 b_15) (Box.y1 b_15)))) (tw (Pt.mk (Box.x1 b) (Box.y0 b)) (Pt.mk (Box.x1 b_11) (Box.y1 b_11)) (Pt.mk (Box.x1 b_15) (Box.y0 b_15)))) (tw (Pt.mk (Box.x1 b) (Box.y0 b)) (Pt.mk (Box.x1 b_11) (Box.y1 b_11)) (Pt.mk (Box.x1 b_15) (Box.y1 b_15)))) (tw (Pt.mk (Box.x1 b) (Box.y1 b)) (Pt.mk (Box.x0 b_16) (Box.y0 b_16)) (Pt.mk (Box.x0 b_17) (Box.y0 b_17)))) (tw (Pt.mk (Box.x1 b) (Box.y1 b)) (Pt.mk (Box.x0 b_16) (Box.y0 b_16)) (Pt.mk (Box.x0 b_17) (Box.y1 b_17)))) (tw (Pt.mk (Box.x1 b) (Box.y1 b)) (Pt.mk (Box.x0 b_16) (Box.y0 b_16)) (Pt.mk (Box.x1 b_17) (Box.y0 b_17)))) (tw (Pt.mk (Box.x1 b) (Box.y1 b)) (Pt.mk (Box.x0 b_16) (Box.y0 b_16)) (Pt.mk (Box.x1 b_17) (Box.y1 b_17)))) (tw (Pt.mk (Box.x1 b) (Box.y1 b)) (Pt.mk (Box.x0 b_16) (Box.y1 b_16)) (Pt.mk (Box.x0 b_18) (Box.y0 b_18)))) (tw (Pt.mk (Box.x1 b) (Box.y1 b)) (Pt.mk (Box.x0 b_16) (Box.y1 b_16)) (Pt.mk (Box.x0 b_18) (Box.y1 b_18)))) (tw (Pt.mk (Box.x1 b) (Box.y1 b)) (Pt.mk (Box.x0 b_16) (Box.y1 b_16)) (Pt.mk (Box.x1 b_18) (Box.y0 b_18)))) (tw (Pt.mk (Box.x1 b) (Box.y1 b)) (Pt.mk (Box.x0 b_16) (Box.y1 b_16)) (Pt.mk (Box.x1 b_18) (Box.y1 b_18)))) (tw (Pt.mk (Box.x1 b) (Box.y1 b)) (Pt.mk (Box.x1 b_16) (Box.y0 b_16)) (Pt.mk (Box.x0 b_19) (Box.y0 b_19)))) (tw (Pt.mk (Box.x1 b) (Box.y1 b)) (Pt.mk (Box.x1 b_16) (Box.y0 b_16)) (Pt.mk (Box.x0 b_19) (Box.y1 b_19)))) (tw (Pt.mk (Box.x1 b) (Box.y1 b)) (Pt.mk (Box.x1 b_16) (Box.y0 b_16)) (Pt.mk (Box.x1 b_19) (Box.y0 b_19)))) (tw (Pt.mk (Box.x1 b) (Box.y1 b)) (Pt.mk (Box.x1 b_16) (Box.y0 b_16)) (Pt.mk (Box.x1 b_19) (Box.y1 b_19)))) (tw (Pt.mk (Box.x1 b) (Box.y1 b)) (Pt.mk (Box.x1 b_16) (Box.y1 b_16)) (Pt.mk (Box.x0 b_20) (Box.y0 b_20)))) (tw (Pt.mk (Box.x1 b) (Box.y1 b)) (Pt.mk (Box.x1 b_16) (Box.y1 b_16)) (Pt.mk (Box.x0 b_20) (Box.y1 b_20)))) (tw (Pt.mk (Box.x1 b) (Box.y1 b)) (Pt.mk (Box.x1 b_16) (Box.y1 b_16)) (Pt.mk (Box.x1 b_20) (Box.y0 b_20)))) (tw (Pt.mk (Box.x1 b) (Box.y1 b)) (Pt.mk (Box.x1 b_16) (Box.y1 b_16)) (Pt.mk (Box.x1 b_20) (Box.y1 b_20))))) (Sn.mk flo fhi))]) (Hp.mk Tr.nil 0 0)))))))))))))))))))))))) := fun Q => by kernel_rfl
  obtain ⟨_ha0, _hb0⟩ := boxAt_eq _hc0
  obtain ⟨_ha1, _hb1⟩ := boxAt_eq _hc1
  obtain ⟨_ha2, _hb2⟩ := boxAt_eq _hc2
  refine vcP en5_ok 60 ?_
  rw [F]
  try clear F
  repeat' (first | refine needI (by simp only [leB, decide_eq_true_eq]; omega) ?_ | refine exI _ (by assumption) ?_)
  all_goals kernel_rfl
theorem r255 : ∀ args v, p255 args = some v → Pev cx0 255 args v := by
  intro args v h
  unfold p255 at h
  split at h
  · repeat (split at h; rotate_left; · cases h)
    cases h
    apply t255 <;> assumption
  · cases h
theorem q255 : ∀ args T, q255T args = some T → ∀ K, T K → ∃ v, Pev cx0 255 args v ∧ K v := by
  intro args T hT K hK
  unfold q255T at hT
  split at hT
  · cases hT; obtain ⟨_, _, _, _, _, _, hK⟩ := hK; refine ⟨_, ?_, hK⟩; apply t255 <;> assumption
  · cases hT
theorem tab6_ok : TabOk cx0 tab6 := by
  have e : tab6 = [(18, (lift p37)), (33, (lift p84)), (34, (lift p34)), (37, (lift p37)), (39, (lift p34)), (66, (lift p84)), (67, (lift p218)), (84, (lift p84)), (86, (lift p86)), (88, (lift p88)), (91, (lift p84)), (93, (lift p88)), (100, (lift p100)), (105, (lift p88)), (120, (lift p160)), (126, (lift p84)), (144, (lift p84)), (158, (lift p84)), (160, (lift p160)), (162, (lift p162)), (168, (lift p168)), (218, (lift p218)), (254, q254T), (255, q255T), (256, q256T), (257, q257T), (258, q258T), (259, q259T), (288, q288T), (289, (lift p289)), (290, (lift p290)), (291, (lift p291)), (292, (lift p292)), (319, (lift p319)), (324, (lift p324)), (325, (lift p325))].foldl (fun t x => t.set x.1 x.2) .nil := by kernel_rfl
  rw [e]
  refine TabOk.all fun x hx => ?_
  simp only [List.mem_cons, List.not_mem_nil, or_false] at hx
  rcases hx with rfl | rfl | rfl | rfl | rfl | rfl | rfl | rfl | rfl | rfl | rfl | rfl | rfl | rfl | rfl | rfl | rfl | rfl | rfl | rfl | rfl | rfl | rfl | rfl | rfl | rfl | rfl | rfl | rfl | rfl | rfl | rfl | rfl | rfl | rfl | rfl
  · exact q18
  · exact q33
  · exact q34
  · exact q37
  · exact q39
  · exact q66
  · exact q67
  · exact q84
  · exact q86
  · exact q88
  · exact q91
  · exact q93
  · exact q100
  · exact q105
  · exact q120
  · exact q126
  · exact q144
  · exact q158
  · exact q160
  · exact q162
  · exact q168
  · exact q218
  · exact q254
  · exact q255
  · exact q256
  · exact q257
  · exact q258
  · exact q259
  · exact q288
  · exact q289
  · exact q290
  · exact q291
  · exact q292
  · exact q319
  · exact q324
  · exact q325
theorem en6_ok : EnOk cx0 (enOf elT tab6) := enOf_ok elT_ok tab6_ok
theorem t219 (id kd : Int) (ng : Bool) (fa fb fc flo fhi fq : Int) (β cl : Bool) (es : List (List V)) {A B C : Box} (_hc0 : boxAt es fa = some A) (_hc1 : boxAt es fb = some B) (_hc2 : boxIf kd es fc = some C) : Pev cx0 219 [.agg [.int .i64 id, .int .i64 kd, .bool ng, .int .i64 fa, .int .i64 fb, .int .i64 fc, .int .i64 flo, .int .i64 fhi, .int .i64 fq], .imm β 4 cl es] (.tup [.bool (bareC kd A B C ⟨flo, fhi⟩ fq), .bool (bareM kd A B C ⟨flo, fhi⟩ fq)]) := by
  have F : ∀ Q : Rs → Prop, vc cx0 (enOf elT tab6) 60 (.pcall 219 [.agg [.int .i64 id, .int .i64 kd, .bool ng, .int .i64 fa, .int .i64 fb, .int .i64 fc, .int .i64 flo, .int .i64 fhi, .int .i64 fq], .imm β 4 cl es]) Q = (brW (kd == 2) (∃ A, boxAt es fa = some A ∧ ∃ B, boxAt es fb = some B ∧ ∃ C, boxAt es fc = some C ∧ Q (Rs.val (V.tup [V.bool (canV (turnV A B C) (Sn.mk flo fhi)), V.bool (mustV (turnV A B C) (Sn.mk flo fhi))]) Hp.empty)) (brW (kd == 3) (∃ A, boxAt es fa = some A ∧ ∃ B, boxAt es fb = some B ∧ Q (Rs.val (V.tup [V.bool (quarC A B fq), V.bool (quarM A B fq)]) Hp.empty)) (brW (kd == 4) (∃ A, boxAt es fa = some A ∧ ∃ B, boxAt es fb = some B ∧ Q (Rs.val (V.tup [V.bool (nearC A B fhi), V.bool (nearM A B fhi)]) Hp.empty)) (brW (kd == 5) (∃ A, boxAt es fa = some A ∧ ∃ B, boxAt es fb = some B ∧ Q (Rs.val (V.tup [V.bool (canV (less (Box.X B) (Box.X A)) (Sn.mk flo fhi)), V.bool (mustV (less (Box.X B) (Box.X A)) (Sn.mk flo fhi))]) Hp.empty)) (brW (kd == 6) (∃ A, boxAt es fa = some A ∧ ∃ B, boxAt es fb = some B ∧ Q (Rs.val (V.tup [V.bool (canV (less (Box.Y B) (Box.Y A)) (Sn.mk flo fhi)), V.bool (mustV (less (Box.Y B) (Box.Y A)) (Sn.mk flo fhi))]) Hp.empty)) (∃ A, boxAt es fa = some A ∧ ∃ B, boxAt es fb = some B ∧ Q (Rs.val (V.tup [V.bool (canV (distV A B) (Sn.mk flo fhi)), V.bool (mustV (distV A B) (Sn.mk flo fhi))]) Hp.empty))))))) := fun Q => by kernel_rfl
  obtain ⟨_ha0, _hb0⟩ := boxAt_eq _hc0
  obtain ⟨_ha1, _hb1⟩ := boxAt_eq _hc1
  refine vcP en6_ok 60 ?_
  rw [F]
  try clear F
  unfold boxIf at _hc2
  repeat' (first | refine exI _ (by first | assumption | (simp only [*, cond_true] at _hc2; exact _hc2) | (simp only [boxIf, *])) ?_ | refine brI (fun h => ?_) (fun h => ?_))
  all_goals (simp only [failsB, bareC, bareM, cond_true, cond_false, *])
theorem r219 : ∀ args v, p219 args = some v → Pev cx0 219 args v := by
  intro args v h
  unfold p219 at h
  split at h
  · repeat (split at h; rotate_left; · cases h)
    cases h
    apply t219 <;> assumption
  · cases h
theorem q219 : ∀ args T, q219T args = some T → ∀ K, T K → ∃ v, Pev cx0 219 args v ∧ K v := by
  intro args T hT K hK
  unfold q219T at hT
  split at hT
  · cases hT; obtain ⟨_, _, _, _, _, _, hK⟩ := hK; refine ⟨_, ?_, hK⟩; apply t219 <;> assumption
  · cases hT
theorem tab7_ok : TabOk cx0 tab7 := by
  have e : tab7 = [(18, (lift p37)), (33, (lift p84)), (34, (lift p34)), (37, (lift p37)), (39, (lift p34)), (66, (lift p84)), (67, (lift p218)), (84, (lift p84)), (86, (lift p86)), (88, (lift p88)), (91, (lift p84)), (93, (lift p88)), (100, (lift p100)), (105, (lift p88)), (120, (lift p160)), (126, (lift p84)), (144, (lift p84)), (158, (lift p84)), (160, (lift p160)), (162, (lift p162)), (168, (lift p168)), (218, (lift p218)), (219, q219T), (254, q254T), (255, q255T), (256, q256T), (257, q257T), (258, q258T), (259, q259T), (288, q288T), (289, (lift p289)), (290, (lift p290)), (291, (lift p291)), (292, (lift p292)), (319, (lift p319)), (324, (lift p324)), (325, (lift p325))].foldl (fun t x => t.set x.1 x.2) .nil := by kernel_rfl
  rw [e]
  refine TabOk.all fun x hx => ?_
  simp only [List.mem_cons, List.not_mem_nil, or_false] at hx
  rcases hx with rfl | rfl | rfl | rfl | rfl | rfl | rfl | rfl | rfl | rfl | rfl | rfl | rfl | rfl | rfl | rfl | rfl | rfl | rfl | rfl | rfl | rfl | rfl | rfl | rfl | rfl | rfl | rfl | rfl | rfl | rfl | rfl | rfl | rfl | rfl | rfl | rfl
  · exact q18
  · exact q33
  · exact q34
  · exact q37
  · exact q39
  · exact q66
  · exact q67
  · exact q84
  · exact q86
  · exact q88
  · exact q91
  · exact q93
  · exact q100
  · exact q105
  · exact q120
  · exact q126
  · exact q144
  · exact q158
  · exact q160
  · exact q162
  · exact q168
  · exact q218
  · exact q219
  · exact q254
  · exact q255
  · exact q256
  · exact q257
  · exact q258
  · exact q259
  · exact q288
  · exact q289
  · exact q290
  · exact q291
  · exact q292
  · exact q319
  · exact q324
  · exact q325
theorem en7_ok : EnOk cx0 (enOf elT tab7) := enOf_ok elT_ok tab7_ok
theorem t173 (id kd : Int) (ng : Bool) (fa fb fc flo fhi fq : Int) (β cl : Bool) (es : List (List V)) {A B C : Box} (_hc0 : boxAt es fa = some A) (_hc1 : boxAt es fb = some B) (_hc2 : boxIf kd es fc = some C) : Pev cx0 173 [.agg [.int .i64 id, .int .i64 kd, .bool ng, .int .i64 fa, .int .i64 fb, .int .i64 fc, .int .i64 flo, .int .i64 fhi, .int .i64 fq], .imm β 4 cl es] (.bool (failsB kd ng A B C ⟨flo, fhi⟩ fq)) := by
  have F : ∀ Q : Rs → Prop, vc cx0 (enOf elT tab7) 60 (.pcall 173 [.agg [.int .i64 id, .int .i64 kd, .bool ng, .int .i64 fa, .int .i64 fb, .int .i64 fc, .int .i64 flo, .int .i64 fhi, .int .i64 fq], .imm β 4 cl es]) Q = (∃ A, boxAt es fa = some A ∧ ∃ B, boxAt es fb = some B ∧ ∃ C, boxIf kd es fc = some C ∧ brW ng (Q (Rs.val (V.bool (bareM kd A B C (Sn.mk flo fhi) fq)) Hp.empty)) (Q (Rs.val (V.bool !bareC kd A B C (Sn.mk flo fhi) fq) Hp.empty))) := fun Q => by kernel_rfl
  obtain ⟨_ha0, _hb0⟩ := boxAt_eq _hc0
  obtain ⟨_ha1, _hb1⟩ := boxAt_eq _hc1
  refine vcP en7_ok 60 ?_
  rw [F]
  try clear F
  unfold boxIf at _hc2
  repeat' (first | refine exI _ (by first | assumption | (simp only [*, cond_true] at _hc2; exact _hc2) | (simp only [boxIf, *])) ?_ | refine brI (fun h => ?_) (fun h => ?_))
  all_goals (simp only [failsB, bareC, bareM, cond_true, cond_false, *])
theorem r173 : ∀ args v, p173 args = some v → Pev cx0 173 args v := by
  intro args v h
  unfold p173 at h
  split at h
  · repeat (split at h; rotate_left; · cases h)
    cases h
    apply t173 <;> assumption
  · cases h
theorem q173 : ∀ args T, q173T args = some T → ∀ K, T K → ∃ v, Pev cx0 173 args v ∧ K v := by
  intro args T hT K hK
  unfold q173T at hT
  split at hT
  · cases hT; obtain ⟨_, _, _, _, _, _, hK⟩ := hK; refine ⟨_, ?_, hK⟩; apply t173 <;> assumption
  · cases hT
theorem tab8_ok : TabOk cx0 tab8 := by
  have e : tab8 = [(18, (lift p37)), (33, (lift p84)), (34, (lift p34)), (37, (lift p37)), (39, (lift p34)), (66, (lift p84)), (67, (lift p218)), (84, (lift p84)), (86, (lift p86)), (88, (lift p88)), (91, (lift p84)), (93, (lift p88)), (100, (lift p100)), (105, (lift p88)), (120, (lift p160)), (126, (lift p84)), (144, (lift p84)), (158, (lift p84)), (160, (lift p160)), (162, (lift p162)), (168, (lift p168)), (173, q173T), (218, (lift p218)), (219, q219T), (254, q254T), (255, q255T), (256, q256T), (257, q257T), (258, q258T), (259, q259T), (288, q288T), (289, (lift p289)), (290, (lift p290)), (291, (lift p291)), (292, (lift p292)), (319, (lift p319)), (324, (lift p324)), (325, (lift p325))].foldl (fun t x => t.set x.1 x.2) .nil := by kernel_rfl
  rw [e]
  refine TabOk.all fun x hx => ?_
  simp only [List.mem_cons, List.not_mem_nil, or_false] at hx
  rcases hx with rfl | rfl | rfl | rfl | rfl | rfl | rfl | rfl | rfl | rfl | rfl | rfl | rfl | rfl | rfl | rfl | rfl | rfl | rfl | rfl | rfl | rfl | rfl | rfl | rfl | rfl | rfl | rfl | rfl | rfl | rfl | rfl | rfl | rfl | rfl | rfl | rfl | rfl
  · exact q18
  · exact q33
  · exact q34
  · exact q37
  · exact q39
  · exact q66
  · exact q67
  · exact q84
  · exact q86
  · exact q88
  · exact q91
  · exact q93
  · exact q100
  · exact q105
  · exact q120
  · exact q126
  · exact q144
  · exact q158
  · exact q160
  · exact q162
  · exact q168
  · exact q173
  · exact q218
  · exact q219
  · exact q254
  · exact q255
  · exact q256
  · exact q257
  · exact q258
  · exact q259
  · exact q288
  · exact q289
  · exact q290
  · exact q291
  · exact q292
  · exact q319
  · exact q324
  · exact q325
theorem en8_ok : EnOk cx0 (enOf elT tab8) := enOf_ok elT_ok tab8_ok
theorem t161 (a0 a1 a2 a3 : Int) {_u : Unit} (_hc0 : properO (Box.mk a0 a1 a2 a3) = some _u) : Pev cx0 161 [.agg [.int .i64 a0, .int .i64 a1, .int .i64 a2, .int .i64 a3]] (.agg [.int .i64 a0, .int .i64 a2, .int .i64 a1, .int .i64 a2, .int .i64 a1, .int .i64 a3, .int .i64 a0, .int .i64 a3]) := by
  have F : ∀ Q : Rs → Prop, vc cx0 (enOf elT tab8) 40 (.pcall 161 [.agg [.int .i64 a0, .int .i64 a1, .int .i64 a2, .int .i64 a3]]) Q = (brW (!Box.proper (Box.mk a0 a1 a2 a3)) (Q (Rs.val (V.agg [V.int IntKind.i64 0, V.int IntKind.i64 0, V.int IntKind.i64 0, V.int IntKind.i64 0, V.int IntKind.i64 0, V.int IntKind.i64 0, V.int IntKind.i64 0, V.int IntKind.i64 0]) Hp.empty)) (Q (Rs.val (V.agg [V.int IntKind.i64 a0, V.int IntKind.i64 a2, V.int IntKind.i64 a1, V.int IntKind.i64 a2, V.int IntKind.i64 a1, V.int IntKind.i64 a3, V.int IntKind.i64 a0, V.int IntKind.i64 a3]) Hp.empty))) := fun Q => by kernel_rfl
  refine vcP en8_ok 40 ?_
  rw [F]
  try clear F
  have hp := properO_eq _hc0
  simp only [brW, hp, Bool.not_true, cond_true, cond_false]
theorem r161 : ∀ args v, p161 args = some v → Pev cx0 161 args v := by
  intro args v h
  unfold p161 at h
  split at h
  · repeat (split at h; rotate_left; · cases h)
    cases h
    apply t161 <;> assumption
  · cases h
theorem q161 : ∀ args T, q161T args = some T → ∀ K, T K → ∃ v, Pev cx0 161 args v ∧ K v := by
  intro args T hT K hK
  unfold q161T at hT
  split at hT
  · cases hT; obtain ⟨_, _, hK⟩ := hK; refine ⟨_, ?_, hK⟩; apply t161 <;> assumption
  · cases hT
theorem t163 (a0 a1 a2 a3 : Int) {_u : Unit} (_hc0 : properO (Box.mk a0 a1 a2 a3) = some _u) : Pev cx0 163 [.agg [.int .i64 a0, .int .i64 a1, .int .i64 a2, .int .i64 a3]] (.agg [.int .i64 a0, .int .i64 a2, .int .i64 a1, .int .i64 a2, .int .i64 a1, .int .i64 a3, .int .i64 a0, .int .i64 a3]) := by
  have F : ∀ Q : Rs → Prop, vc cx0 (enOf elT tab8) 40 (.pcall 163 [.agg [.int .i64 a0, .int .i64 a1, .int .i64 a2, .int .i64 a3]]) Q = (brW (!Box.proper (Box.mk a0 a1 a2 a3)) (Q (Rs.val (V.agg [V.int IntKind.i64 0, V.int IntKind.i64 0, V.int IntKind.i64 0, V.int IntKind.i64 0, V.int IntKind.i64 0, V.int IntKind.i64 0, V.int IntKind.i64 0, V.int IntKind.i64 0]) Hp.empty)) (Q (Rs.val (V.agg [V.int IntKind.i64 a0, V.int IntKind.i64 a2, V.int IntKind.i64 a1, V.int IntKind.i64 a2, V.int IntKind.i64 a1, V.int IntKind.i64 a3, V.int IntKind.i64 a0, V.int IntKind.i64 a3]) Hp.empty))) := fun Q => by kernel_rfl
  refine vcP en8_ok 40 ?_
  rw [F]
  try clear F
  have hp := properO_eq _hc0
  simp only [brW, hp, Bool.not_true, cond_true, cond_false]
theorem r163 : ∀ args v, p163 args = some v → Pev cx0 163 args v := by
  intro args v h
  unfold p163 at h
  split at h
  · repeat (split at h; rotate_left; · cases h)
    cases h
    apply t163 <;> assumption
  · cases h
theorem q163 : ∀ args T, q163T args = some T → ∀ K, T K → ∃ v, Pev cx0 163 args v ∧ K v := by
  intro args T hT K hK
  unfold q163T at hT
  split at hT
  · cases hT; obtain ⟨_, _, hK⟩ := hK; refine ⟨_, ?_, hK⟩; apply t163 <;> assumption
  · cases hT
theorem tab9_ok : TabOk cx0 tab9 := by
  have e : tab9 = [(18, (lift p37)), (33, (lift p84)), (34, (lift p34)), (37, (lift p37)), (39, (lift p34)), (66, (lift p84)), (67, (lift p218)), (84, (lift p84)), (86, (lift p86)), (88, (lift p88)), (91, (lift p84)), (93, (lift p88)), (100, (lift p100)), (105, (lift p88)), (120, (lift p160)), (126, (lift p84)), (144, (lift p84)), (158, (lift p84)), (160, (lift p160)), (161, q161T), (162, (lift p162)), (163, q163T), (168, (lift p168)), (173, q173T), (218, (lift p218)), (219, q219T), (254, q254T), (255, q255T), (256, q256T), (257, q257T), (258, q258T), (259, q259T), (288, q288T), (289, (lift p289)), (290, (lift p290)), (291, (lift p291)), (292, (lift p292)), (319, (lift p319)), (324, (lift p324)), (325, (lift p325))].foldl (fun t x => t.set x.1 x.2) .nil := by kernel_rfl
  rw [e]
  refine TabOk.all fun x hx => ?_
  simp only [List.mem_cons, List.not_mem_nil, or_false] at hx
  rcases hx with rfl | rfl | rfl | rfl | rfl | rfl | rfl | rfl | rfl | rfl | rfl | rfl | rfl | rfl | rfl | rfl | rfl | rfl | rfl | rfl | rfl | rfl | rfl | rfl | rfl | rfl | rfl | rfl | rfl | rfl | rfl | rfl | rfl | rfl | rfl | rfl | rfl | rfl | rfl | rfl
  · exact q18
  · exact q33
  · exact q34
  · exact q37
  · exact q39
  · exact q66
  · exact q67
  · exact q84
  · exact q86
  · exact q88
  · exact q91
  · exact q93
  · exact q100
  · exact q105
  · exact q120
  · exact q126
  · exact q144
  · exact q158
  · exact q160
  · exact q161
  · exact q162
  · exact q163
  · exact q168
  · exact q173
  · exact q218
  · exact q219
  · exact q254
  · exact q255
  · exact q256
  · exact q257
  · exact q258
  · exact q259
  · exact q288
  · exact q289
  · exact q290
  · exact q291
  · exact q292
  · exact q319
  · exact q324
  · exact q325
theorem en9_ok : EnOk cx0 (enOf elT tab9) := enOf_ok elT_ok tab9_ok
theorem t87 (a0 a1 a2 a3 b0 b1 b2 b3 c0 c1 c2 c3 : Int) : Pev cx0 87 [.agg [.int .i64 a0, .int .i64 a1, .int .i64 a2, .int .i64 a3], .agg [.int .i64 b0, .int .i64 b1, .int .i64 b2, .int .i64 b3], .agg [.int .i64 c0, .int .i64 c1, .int .i64 c2, .int .i64 c3]] (.tup [.agg [.int .i64 (spreadLo ⟨a0, a1, a2, a3⟩ ⟨b0, b1, b2, b3⟩ ⟨c0, c1, c2, c3⟩), .int .i64 (spreadHi ⟨a0, a1, a2, a3⟩ ⟨b0, b1, b2, b3⟩ ⟨c0, c1, c2, c3⟩)], .bool (spreadOk ⟨a0, a1, a2, a3⟩ ⟨b0, b1, b2, b3⟩ ⟨c0, c1, c2, c3⟩)]) := by
  have F : ∀ Q : Rs → Prop, vc cx0 (enOf elT tab9) 200 (.pcall 87 [.agg [.int .i64 a0, .int .i64 a1, .int .i64 a2, .int .i64 a3], .agg [.int .i64 b0, .int .i64 b1, .int .i64 b2, .int .i64 b3], .agg [.int .i64 c0, .int .i64 c1, .int .i64 c2, .int .i64 c3]]) Q = (brW (!Box.proper (Box.mk a0 a1 a2 a3)) (Q (Rs.val (V.tup [V.agg [V.int IntKind.i64 0, V.int IntKind.i64 0], V.bool false]) Hp.empty)) (brW (!Box.proper (Box.mk b0 b1 b2 b3)) (Q (Rs.val (V.tup [V.agg [V.int IntKind.i64 0, V.int IntKind.i64 0], V.bool false]) Hp.empty)) (brW (!Box.proper (Box.mk c0 c1 c2 c3)) (Q (Rs.val (V.tup [V.agg [V.int IntKind.i64 0, V.int IntKind.i64 0], V.bool false]) Hp.empty)) (∃ _u, properO (Box.mk a0 a1 a2 a3) = some _u ∧ ∃ _u, properO (Box.mk b0 b1 b2 b3) = some _u ∧ ∃ _u, properO (Box.mk c0 c1 c2 c3) = some _u ∧ ∃ _u, properO (Box.mk a0 a1 a2 a3) = some _u ∧ ∃ _u, properO (Box.mk b0 b1 b2 b3) = some _u ∧ ∃ _u, properO (Box.mk c0 c1 c2 c3) = some _u ∧ ∃ _u, properO (Box.mk c0 c1 c2 c3) = some _u ∧ ∃ _u, properO (Box.mk c0 c1 c2 c3) = some _u ∧ ∃ _u, properO (Box.mk c0 c1 c2 c3) = some _u ∧ ∃ _u, properO (Box.mk b0 b1 b2 b3) = some _u ∧ ∃ _u, properO (Box.mk c0 c1 c2 c3) = some _u ∧ ∃ _u, properO (Box.mk c0 c1 c2 c3) = some _u ∧ ∃ _u, properO (Box.mk c0 c1 c2 c3) = some _u ∧ ∃ _u, properO (Box.mk c0 c1 c2 c3) = some _u ∧ ∃ _u, properO (Box.mk b0 b1 b2 b3) = some _u ∧ ∃ _u, properO (Box.mk c0 c1 c2 c3) = some _u ∧ ∃ _u, properO (Box.mk c0 c1 c2 c3) = some _u ∧ ∃ _u, properO (Box.mk c0 c1 c2 c3) = some _u ∧ ∃ _u, properO (Box.mk c0 c1 c2 c3) = some _u ∧ ∃ _u, properO (Box.mk b0 b1 b2 b3) = some _u ∧ ∃ _u, properO (Box.mk c0 c1 c2 c3) = some _u ∧ ∃ _u, properO (Box.mk c0 c1 c2 c3) = some _u ∧ ∃ _u, properO (Box.mk c0 c1 c2 c3) = some _u ∧ ∃ _u, properO (Box.mk c0 c1 c2 c3) = some _u ∧ Q (Rs.val (V.tup [V.agg [V.int IntKind.i64 (mn (mn (mn (mn (mn (mn (mn (mn (mn (mn (mn (mn (mn (mn (mn (mn (mn (mn (mn (mn (mn (mn (mn (mn (mn (mn (mn (mn (mn (mn (mn (mn (mn (mn (mn (mn (mn (mn (mn (mn (mn (mn (mn (mn (mn (mn (mn (mn (mn (mn (mn (mn (mn (mn (mn (mn (mn (mn (mn (mn (mn (mn (mn (mn (tw (Pt.mk a0 a2) (Pt.mk b0 b2) (Pt.mk c0 c2)) (tw (Pt.mk a0 a2) (Pt.mk b0 b2) (Pt.mk c0 c2))) (tw (Pt.mk a0 a2) (Pt.mk b0 b2) (Pt.mk c1 c2))) (tw (Pt.mk a0 a2) (Pt.mk b0 b2) (Pt.mk c1 c3))) (tw (Pt.mk a0 a2) (Pt.mk b0 b2) (Pt.mk c0 c3))) (tw (Pt.mk a0 a2) (Pt.mk b1 b2) (Pt.mk c0 c2))) (tw (Pt.mk a0 a2) (Pt.mk b1 b2) (Pt.mk c1 c2))) (tw (Pt.mk a0 a2) (Pt.mk b1 b2) (Pt.mk c1 c3))) (tw (Pt.mk a0 a2) (Pt.mk b1 b2) (Pt.mk c0 c3))) (tw (Pt.mk a0 a2) (Pt.mk b1 b3) (Pt.mk c0 c2))) (tw (Pt.mk a0 a2) (Pt.mk b1 b3) (Pt.mk c1 c2))) (tw (Pt.mk a0 a2) (Pt.mk b1 b3) (Pt.mk c1 c3))) (tw (Pt.mk a0 a2) (Pt.mk b1 b3) (Pt.mk c0 c3))) (tw (Pt.mk a0 a2) (Pt.mk b0 b3) (Pt.mk c0 c2))) (tw (Pt.mk a0 a2) (Pt.mk b0 b3) (Pt.mk c1 c2))) (tw (Pt.mk a0 a2) (Pt.mk b0 b3) (Pt.mk c1 c3))) (tw (Pt.mk a0 a2) (Pt.mk b0 b3) (Pt.mk c0 c3))) (tw (Pt.mk a1 a2) (Pt.mk b0 b2) (Pt.mk c0 c2))) (tw (Pt.mk a1 a2) (Pt.mk b0 b2) (Pt.mk c1 c2))) (tw (Pt.mk a1 a2) (Pt.mk b0 b2) (Pt.mk c1 c3))) (tw (Pt.mk a1 a2) (Pt.mk b0 b2) (Pt.mk c0 c3))) (tw (Pt.mk a1 a2) (Pt.mk b1 b2) (Pt.mk c0 c2))) (tw (Pt.mk a1 a2) (Pt.mk b1 b2) (Pt.mk c1 c2))) (tw (Pt.mk a1 a2) (Pt.mk b1 b2) (Pt.mk c1 c3))) (tw (Pt.mk a1 a2) (Pt.mk b1 b2) (Pt.mk c0 c3))) (tw (Pt.mk a1 a2) (Pt.mk b1 b3) (Pt.mk c0 c2))) (tw (Pt.mk a1 a2) (Pt.mk b1 b3) (Pt.mk c1 c2))) (tw (Pt.mk a1 a2) (Pt.mk b1 b3) (Pt.mk c1 c3))) (tw (Pt.mk a1 a2) (Pt.mk b1 b3) (Pt.mk c0 c3))) (tw (Pt.mk a1 a2) (Pt.mk b0 b3) (Pt.mk c0 c2))) (tw (Pt.mk a1 a2) (Pt.mk b0 b3) (Pt.mk c1 c2))) (tw (Pt.mk a1 a2) (Pt.mk b0 b3) (Pt.mk c1 c3))) (tw (Pt.mk a1 a2) (Pt.mk b0 b3) (Pt.mk c0 c3))) (tw (Pt.mk a1 a3) (Pt.mk b0 b2) (Pt.mk c0 c2))) (tw (Pt.mk a1 a3) (Pt.mk b0 b2) (Pt.mk c1 c2))) (tw (Pt.mk a1 a3) (Pt.mk b0 b2) (Pt.mk c1 c3))) (tw (Pt.mk a1 a3) (Pt.mk b0 b2) (Pt.mk c0 c3))) (tw (Pt.mk a1 a3) (Pt.mk b1 b2) (Pt.mk c0 c2))) (tw (Pt.mk a1 a3) (Pt.mk b1 b2) (Pt.mk c1 c2))) (tw (Pt.mk a1 a3) (Pt.mk b1 b2) (Pt.mk c1 c3))) (tw (Pt.mk a1 a3) (Pt.mk b1 b2) (Pt.mk c0 c3))) (tw (Pt.mk a1 a3) (Pt.mk b1 b3) (Pt.mk c0 c2))) (tw (Pt.mk a1 a3) (Pt.mk b1 b3) (Pt.mk c1 c2))) (tw (Pt.mk a1 a3) (Pt.mk b1 b3) (Pt.mk c1 c3))) (tw (Pt.mk a1 a3) (Pt.mk b1 b3) (Pt.mk c0 c3))) (tw (Pt.mk a1 a3) (Pt.mk b0 b3) (Pt.mk c0 c2))) (tw (Pt.mk a1 a3) (Pt.mk b0 b3) (Pt.mk c1 c2))) (tw (Pt.mk a1 a3) (Pt.mk b0 b3) (Pt.mk c1 c3))) (tw (Pt.mk a1 a3) (Pt.mk b0 b3) (Pt.mk c0 c3))) (tw (Pt.mk a0 a3) (Pt.mk b0 b2) (Pt.mk c0 c2))) (tw (Pt.mk a0 a3) (Pt.mk b0 b2) (Pt.mk c1 c2))) (tw (Pt.mk a0 a3) (Pt.mk b0 b2) (Pt.mk c1 c3))) (tw (Pt.mk a0 a3) (Pt.mk b0 b2) (Pt.mk c0 c3))) (tw (Pt.mk a0 a3) (Pt.mk b1 b2) (Pt.mk c0 c2))) (tw (Pt.mk a0 a3) (Pt.mk b1 b2) (Pt.mk c1 c2))) (tw (Pt.mk a0 a3) (Pt.mk b1 b2) (Pt.mk c1 c3))) (tw (Pt.mk a0 a3) (Pt.mk b1 b2) (Pt.mk c0 c3))) (tw (Pt.mk a0 a3) (Pt.mk b1 b3) (Pt.mk c0 c2))) (tw (Pt.mk a0 a3) (Pt.mk b1 b3) (Pt.mk c1 c2))) (tw (Pt.mk a0 a3) (Pt.mk b1 b3) (Pt.mk c1 c3))) (tw (Pt.mk a0 a3) (Pt.mk b1 b3) (Pt.mk c0 c3))) (tw (Pt.mk a0 a3) (Pt.mk b0 b3) (Pt.mk c0 c2))) (tw (Pt.mk a0 a3) (Pt.mk b0 b3) (Pt.mk c1 c2))) (tw (Pt.mk a0 a3) (Pt.mk b0 b3) (Pt.mk c1 c3))) (tw (Pt.mk a0 a3) (Pt.mk b0 b3) (Pt.mk c0 c3))), V.int IntKind.i64 (mx (mx (mx (mx (mx (mx (mx (mx (mx (mx (mx (mx (mx (mx (mx (mx (mx (mx (mx (mx (mx (mx (mx (mx (mx (mx (mx (mx (mx (mx (mx (mx (mx (mx (mx (mx (mx (mx (mx (mx (mx (mx (mx (mx (mx (mx (mx (mx (mx (mx (mx (mx (mx (mx (mx (mx (mx (mx (mx (mx (mx (mx (mx (mx (tw (Pt.mk a0 a2) (Pt.mk b0 b2) (Pt.mk c0 c2)) (tw (Pt.mk a0 a2) (Pt.mk b0 b2) (Pt.mk c0 c2))) (tw (Pt.mk a0 a2) (Pt.mk b0 b2) (Pt.mk c1 c2))) (tw (Pt.mk a0 a2) (Pt.mk b0 b2) (Pt.mk c1 c3))) (tw (Pt.mk a0 a2) (Pt.mk b0 b2) (Pt.mk c0 c3))) (tw (Pt.mk a0 a2) (Pt.mk b1 b2) (Pt.mk c0 c2))) (tw (Pt.mk a0 a2) (Pt.mk b1 b2) (Pt.mk c1 c2))) (tw (Pt.mk a0 a2) (Pt.mk b1 b2) (Pt.mk c1 c3))) (tw (Pt.mk a0 a2) (Pt.mk b1 b2) (Pt.mk c0 c3))) (tw (Pt.mk a0 a2) (Pt.mk b1 b3) (Pt.mk c0 c2))) (tw (Pt.mk a0 a2) (Pt.mk b1 b3) (Pt.mk c1 c2))) (tw (Pt.mk a0 a2) (Pt.mk b1 b3) (Pt.mk c1 c3))) (tw (Pt.mk a0 a2) (Pt.mk b1 b3) (Pt.mk c0 c3))) (tw (Pt.mk a0 a2) (Pt.mk b0 b3) (Pt.mk c0 c2))) (tw (Pt.mk a0 a2) (Pt.mk b0 b3) (Pt.mk c1 c2))) (tw (Pt.mk a0 a2) (Pt.mk b0 b3) (Pt.mk c1 c3))) (tw (Pt.mk a0 a2) (Pt.mk b0 b3) (Pt.mk c0 c3))) (tw (Pt.mk a1 a2) (Pt.mk b0 b2) (Pt.mk c0 c2))) (tw (Pt.mk a1 a2) (Pt.mk b0 b2) (Pt.mk c1 c2))) (tw (Pt.mk a1 a2) (Pt.mk b0 b2) (Pt.mk c1 c3))) (tw (Pt.mk a1 a2) (Pt.mk b0 b2) (Pt.mk c0 c3))) (tw (Pt.mk a1 a2) (Pt.mk b1 b2) (Pt.mk c0 c2))) (tw (Pt.mk a1 a2) (Pt.mk b1 b2) (Pt.mk c1 c2))) (tw (Pt.mk a1 a2) (Pt.mk b1 b2) (Pt.mk c1 c3))) (tw (Pt.mk a1 a2) (Pt.mk b1 b2) (Pt.mk c0 c3))) (tw (Pt.mk a1 a2) (Pt.mk b1 b3) (Pt.mk c0 c2))) (tw (Pt.mk a1 a2) (Pt.mk b1 b3) (Pt.mk c1 c2))) (tw (Pt.mk a1 a2) (Pt.mk b1 b3) (Pt.mk c1 c3))) (tw (Pt.mk a1 a2) (Pt.mk b1 b3) (Pt.mk c0 c3))) (tw (Pt.mk a1 a2) (Pt.mk b0 b3) (Pt.mk c0 c2))) (tw (Pt.mk a1 a2) (Pt.mk b0 b3) (Pt.mk c1 c2))) (tw (Pt.mk a1 a2) (Pt.mk b0 b3) (Pt.mk c1 c3))) (tw (Pt.mk a1 a2) (Pt.mk b0 b3) (Pt.mk c0 c3))) (tw (Pt.mk a1 a3) (Pt.mk b0 b2) (Pt.mk c0 c2))) (tw (Pt.mk a1 a3) (Pt.mk b0 b2) (Pt.mk c1 c2))) (tw (Pt.mk a1 a3) (Pt.mk b0 b2) (Pt.mk c1 c3))) (tw (Pt.mk a1 a3) (Pt.mk b0 b2) (Pt.mk c0 c3))) (tw (Pt.mk a1 a3) (Pt.mk b1 b2) (Pt.mk c0 c2))) (tw (Pt.mk a1 a3) (Pt.mk b1 b2) (Pt.mk c1 c2))) (tw (Pt.mk a1 a3) (Pt.mk b1 b2) (Pt.mk c1 c3))) (tw (Pt.mk a1 a3) (Pt.mk b1 b2) (Pt.mk c0 c3))) (tw (Pt.mk a1 a3) (Pt.mk b1 b3) (Pt.mk c0 c2))) (tw (Pt.mk a1 a3) (Pt.mk b1 b3) (Pt.mk c1 c2))) (tw (Pt.mk a1 a3) (Pt.mk b1 b3) (Pt.mk c1 c3))) (tw (Pt.mk a1 a3) (Pt.mk b1 b3) (Pt.mk c0 c3))) (tw (Pt.mk a1 a3) (Pt.mk b0 b3) (Pt.mk c0 c2))) (tw (Pt.mk a1 a3) (Pt.mk b0 b3) (Pt.mk c1 c2))) (tw (Pt.mk a1 a3) (Pt.mk b0 b3) (Pt.mk c1 c3))) (tw (Pt.mk a1 a3) (Pt.mk b0 b3) (Pt.mk c0 c3))) (tw (Pt.mk a0 a3) (Pt.mk b0 b2) (Pt.mk c0 c2))) (tw (Pt.mk a0 a3) (Pt.mk b0 b2) (Pt.mk c1 c2))) (tw (Pt.mk a0 a3) (Pt.mk b0 b2) (Pt.mk c1 c3))) (tw (Pt.mk a0 a3) (Pt.mk b0 b2) (Pt.mk c0 c3))) (tw (Pt.mk a0 a3) (Pt.mk b1 b2) (Pt.mk c0 c2))) (tw (Pt.mk a0 a3) (Pt.mk b1 b2) (Pt.mk c1 c2))) (tw (Pt.mk a0 a3) (Pt.mk b1 b2) (Pt.mk c1 c3))) (tw (Pt.mk a0 a3) (Pt.mk b1 b2) (Pt.mk c0 c3))) (tw (Pt.mk a0 a3) (Pt.mk b1 b3) (Pt.mk c0 c2))) (tw (Pt.mk a0 a3) (Pt.mk b1 b3) (Pt.mk c1 c2))) (tw (Pt.mk a0 a3) (Pt.mk b1 b3) (Pt.mk c1 c3))) (tw (Pt.mk a0 a3) (Pt.mk b1 b3) (Pt.mk c0 c3))) (tw (Pt.mk a0 a3) (Pt.mk b0 b3) (Pt.mk c0 c2))) (tw (Pt.mk a0 a3) (Pt.mk b0 b3) (Pt.mk c1 c2))) (tw (Pt.mk a0 a3) (Pt.mk b0 b3) (Pt.mk c1 c3))) (tw (Pt.mk a0 a3) (Pt.mk b0 b3) (Pt.mk c0 c3)))], V.bool true]) (Hp.mk Tr.nil 0 0)))))) := fun Q => by kernel_rfl
  refine vcP en9_ok 200 ?_
  rw [F]
  try clear F
  cases ha : Box.proper (Box.mk a0 a1 a2 a3) <;> cases hb : Box.proper (Box.mk b0 b1 b2 b3) <;> cases hc : Box.proper (Box.mk c0 c1 c2 c3) <;>
    simp only [brW, Bool.not_true, Bool.not_false, Bool.or_true, Bool.true_or, Bool.or_false, Bool.false_or, cond_true, cond_false]
  rotate_left 7
  · repeat (refine exI () (by exact properO_of (by assumption)) ?_)
    simp only [spreadLo, spreadHi, spreadOk, ha, hb, hc, Bool.and_true, cond_true]
    kernel_rfl
  all_goals simp only [spreadLo, spreadHi, spreadOk, ha, hb, hc, Bool.and_true, Bool.and_false, Bool.false_and, Bool.true_and, cond_true, cond_false]
theorem r87 : ∀ args v, p87 args = some v → Pev cx0 87 args v := by
  intro args v h
  unfold p87 at h
  split at h
  · cases h; apply t87
  · cases h
theorem q87 : ∀ args T, lift p87 args = some T → ∀ K, T K → ∃ v, Pev cx0 87 args v ∧ K v := lift_ok r87
theorem t92 (a0 a1 a2 a3 b0 b1 b2 b3 c0 c1 c2 c3 : Int) : Pev cx0 92 [.agg [.int .i64 a0, .int .i64 a1, .int .i64 a2, .int .i64 a3], .agg [.int .i64 b0, .int .i64 b1, .int .i64 b2, .int .i64 b3], .agg [.int .i64 c0, .int .i64 c1, .int .i64 c2, .int .i64 c3]] (.tup [.agg [.int .i64 (spreadLo ⟨a0, a1, a2, a3⟩ ⟨b0, b1, b2, b3⟩ ⟨c0, c1, c2, c3⟩), .int .i64 (spreadHi ⟨a0, a1, a2, a3⟩ ⟨b0, b1, b2, b3⟩ ⟨c0, c1, c2, c3⟩)], .bool (spreadOk ⟨a0, a1, a2, a3⟩ ⟨b0, b1, b2, b3⟩ ⟨c0, c1, c2, c3⟩)]) := by
  have F : ∀ Q : Rs → Prop, vc cx0 (enOf elT tab9) 200 (.pcall 92 [.agg [.int .i64 a0, .int .i64 a1, .int .i64 a2, .int .i64 a3], .agg [.int .i64 b0, .int .i64 b1, .int .i64 b2, .int .i64 b3], .agg [.int .i64 c0, .int .i64 c1, .int .i64 c2, .int .i64 c3]]) Q = (brW (!Box.proper (Box.mk a0 a1 a2 a3) || !Box.proper (Box.mk b0 b1 b2 b3) || !Box.proper (Box.mk c0 c1 c2 c3)) (Q (Rs.val (V.tup [V.agg [V.int IntKind.i64 0, V.int IntKind.i64 0], V.bool false]) Hp.empty)) (∃ _u, properO (Box.mk a0 a1 a2 a3) = some _u ∧ ∃ _u, properO (Box.mk b0 b1 b2 b3) = some _u ∧ ∃ _u, properO (Box.mk c0 c1 c2 c3) = some _u ∧ Q (Rs.val (V.tup [V.agg [V.int IntKind.i64 (mn (mn (mn (mn (mn (mn (mn (mn (mn (mn (mn (mn (mn (mn (mn (mn (mn (mn (mn (mn (mn (mn (mn (mn (mn (mn (mn (mn (mn (mn (mn (mn (mn (mn (mn (mn (mn (mn (mn (mn (mn (mn (mn (mn (mn (mn (mn (mn (mn (mn (mn (mn (mn (mn (mn (mn (mn (mn (mn (mn (mn (mn (mn (mn (tw (Pt.mk a0 a2) (Pt.mk b0 b2) (Pt.mk c0 c2)) (tw (Pt.mk a0 a2) (Pt.mk b0 b2) (Pt.mk c0 c2))) (tw (Pt.mk a0 a2) (Pt.mk b0 b2) (Pt.mk c1 c2))) (tw (Pt.mk a0 a2) (Pt.mk b0 b2) (Pt.mk c1 c3))) (tw (Pt.mk a0 a2) (Pt.mk b0 b2) (Pt.mk c0 c3))) (tw (Pt.mk a0 a2) (Pt.mk b1 b2) (Pt.mk c0 c2))) (tw (Pt.mk a0 a2) (Pt.mk b1 b2) (Pt.mk c1 c2))) (tw (Pt.mk a0 a2) (Pt.mk b1 b2) (Pt.mk c1 c3))) (tw (Pt.mk a0 a2) (Pt.mk b1 b2) (Pt.mk c0 c3))) (tw (Pt.mk a0 a2) (Pt.mk b1 b3) (Pt.mk c0 c2))) (tw (Pt.mk a0 a2) (Pt.mk b1 b3) (Pt.mk c1 c2))) (tw (Pt.mk a0 a2) (Pt.mk b1 b3) (Pt.mk c1 c3))) (tw (Pt.mk a0 a2) (Pt.mk b1 b3) (Pt.mk c0 c3))) (tw (Pt.mk a0 a2) (Pt.mk b0 b3) (Pt.mk c0 c2))) (tw (Pt.mk a0 a2) (Pt.mk b0 b3) (Pt.mk c1 c2))) (tw (Pt.mk a0 a2) (Pt.mk b0 b3) (Pt.mk c1 c3))) (tw (Pt.mk a0 a2) (Pt.mk b0 b3) (Pt.mk c0 c3))) (tw (Pt.mk a1 a2) (Pt.mk b0 b2) (Pt.mk c0 c2))) (tw (Pt.mk a1 a2) (Pt.mk b0 b2) (Pt.mk c1 c2))) (tw (Pt.mk a1 a2) (Pt.mk b0 b2) (Pt.mk c1 c3))) (tw (Pt.mk a1 a2) (Pt.mk b0 b2) (Pt.mk c0 c3))) (tw (Pt.mk a1 a2) (Pt.mk b1 b2) (Pt.mk c0 c2))) (tw (Pt.mk a1 a2) (Pt.mk b1 b2) (Pt.mk c1 c2))) (tw (Pt.mk a1 a2) (Pt.mk b1 b2) (Pt.mk c1 c3))) (tw (Pt.mk a1 a2) (Pt.mk b1 b2) (Pt.mk c0 c3))) (tw (Pt.mk a1 a2) (Pt.mk b1 b3) (Pt.mk c0 c2))) (tw (Pt.mk a1 a2) (Pt.mk b1 b3) (Pt.mk c1 c2))) (tw (Pt.mk a1 a2) (Pt.mk b1 b3) (Pt.mk c1 c3))) (tw (Pt.mk a1 a2) (Pt.mk b1 b3) (Pt.mk c0 c3))) (tw (Pt.mk a1 a2) (Pt.mk b0 b3) (Pt.mk c0 c2))) (tw (Pt.mk a1 a2) (Pt.mk b0 b3) (Pt.mk c1 c2))) (tw (Pt.mk a1 a2) (Pt.mk b0 b3) (Pt.mk c1 c3))) (tw (Pt.mk a1 a2) (Pt.mk b0 b3) (Pt.mk c0 c3))) (tw (Pt.mk a1 a3) (Pt.mk b0 b2) (Pt.mk c0 c2))) (tw (Pt.mk a1 a3) (Pt.mk b0 b2) (Pt.mk c1 c2))) (tw (Pt.mk a1 a3) (Pt.mk b0 b2) (Pt.mk c1 c3))) (tw (Pt.mk a1 a3) (Pt.mk b0 b2) (Pt.mk c0 c3))) (tw (Pt.mk a1 a3) (Pt.mk b1 b2) (Pt.mk c0 c2))) (tw (Pt.mk a1 a3) (Pt.mk b1 b2) (Pt.mk c1 c2))) (tw (Pt.mk a1 a3) (Pt.mk b1 b2) (Pt.mk c1 c3))) (tw (Pt.mk a1 a3) (Pt.mk b1 b2) (Pt.mk c0 c3))) (tw (Pt.mk a1 a3) (Pt.mk b1 b3) (Pt.mk c0 c2))) (tw (Pt.mk a1 a3) (Pt.mk b1 b3) (Pt.mk c1 c2))) (tw (Pt.mk a1 a3) (Pt.mk b1 b3) (Pt.mk c1 c3))) (tw (Pt.mk a1 a3) (Pt.mk b1 b3) (Pt.mk c0 c3))) (tw (Pt.mk a1 a3) (Pt.mk b0 b3) (Pt.mk c0 c2))) (tw (Pt.mk a1 a3) (Pt.mk b0 b3) (Pt.mk c1 c2))) (tw (Pt.mk a1 a3) (Pt.mk b0 b3) (Pt.mk c1 c3))) (tw (Pt.mk a1 a3) (Pt.mk b0 b3) (Pt.mk c0 c3))) (tw (Pt.mk a0 a3) (Pt.mk b0 b2) (Pt.mk c0 c2))) (tw (Pt.mk a0 a3) (Pt.mk b0 b2) (Pt.mk c1 c2))) (tw (Pt.mk a0 a3) (Pt.mk b0 b2) (Pt.mk c1 c3))) (tw (Pt.mk a0 a3) (Pt.mk b0 b2) (Pt.mk c0 c3))) (tw (Pt.mk a0 a3) (Pt.mk b1 b2) (Pt.mk c0 c2))) (tw (Pt.mk a0 a3) (Pt.mk b1 b2) (Pt.mk c1 c2))) (tw (Pt.mk a0 a3) (Pt.mk b1 b2) (Pt.mk c1 c3))) (tw (Pt.mk a0 a3) (Pt.mk b1 b2) (Pt.mk c0 c3))) (tw (Pt.mk a0 a3) (Pt.mk b1 b3) (Pt.mk c0 c2))) (tw (Pt.mk a0 a3) (Pt.mk b1 b3) (Pt.mk c1 c2))) (tw (Pt.mk a0 a3) (Pt.mk b1 b3) (Pt.mk c1 c3))) (tw (Pt.mk a0 a3) (Pt.mk b1 b3) (Pt.mk c0 c3))) (tw (Pt.mk a0 a3) (Pt.mk b0 b3) (Pt.mk c0 c2))) (tw (Pt.mk a0 a3) (Pt.mk b0 b3) (Pt.mk c1 c2))) (tw (Pt.mk a0 a3) (Pt.mk b0 b3) (Pt.mk c1 c3))) (tw (Pt.mk a0 a3) (Pt.mk b0 b3) (Pt.mk c0 c3))), V.int IntKind.i64 (mx (mx (mx (mx (mx (mx (mx (mx (mx (mx (mx (mx (mx (mx (mx (mx (mx (mx (mx (mx (mx (mx (mx (mx (mx (mx (mx (mx (mx (mx (mx (mx (mx (mx (mx (mx (mx (mx (mx (mx (mx (mx (mx (mx (mx (mx (mx (mx (mx (mx (mx (mx (mx (mx (mx (mx (mx (mx (mx (mx (mx (mx (mx (mx (tw (Pt.mk a0 a2) (Pt.mk b0 b2) (Pt.mk c0 c2)) (tw (Pt.mk a0 a2) (Pt.mk b0 b2) (Pt.mk c0 c2))) (tw (Pt.mk a0 a2) (Pt.mk b0 b2) (Pt.mk c1 c2))) (tw (Pt.mk a0 a2) (Pt.mk b0 b2) (Pt.mk c1 c3))) (tw (Pt.mk a0 a2) (Pt.mk b0 b2) (Pt.mk c0 c3))) (tw (Pt.mk a0 a2) (Pt.mk b1 b2) (Pt.mk c0 c2))) (tw (Pt.mk a0 a2) (Pt.mk b1 b2) (Pt.mk c1 c2))) (tw (Pt.mk a0 a2) (Pt.mk b1 b2) (Pt.mk c1 c3))) (tw (Pt.mk a0 a2) (Pt.mk b1 b2) (Pt.mk c0 c3))) (tw (Pt.mk a0 a2) (Pt.mk b1 b3) (Pt.mk c0 c2))) (tw (Pt.mk a0 a2) (Pt.mk b1 b3) (Pt.mk c1 c2))) (tw (Pt.mk a0 a2) (Pt.mk b1 b3) (Pt.mk c1 c3))) (tw (Pt.mk a0 a2) (Pt.mk b1 b3) (Pt.mk c0 c3))) (tw (Pt.mk a0 a2) (Pt.mk b0 b3) (Pt.mk c0 c2))) (tw (Pt.mk a0 a2) (Pt.mk b0 b3) (Pt.mk c1 c2))) (tw (Pt.mk a0 a2) (Pt.mk b0 b3) (Pt.mk c1 c3))) (tw (Pt.mk a0 a2) (Pt.mk b0 b3) (Pt.mk c0 c3))) (tw (Pt.mk a1 a2) (Pt.mk b0 b2) (Pt.mk c0 c2))) (tw (Pt.mk a1 a2) (Pt.mk b0 b2) (Pt.mk c1 c2))) (tw (Pt.mk a1 a2) (Pt.mk b0 b2) (Pt.mk c1 c3))) (tw (Pt.mk a1 a2) (Pt.mk b0 b2) (Pt.mk c0 c3))) (tw (Pt.mk a1 a2) (Pt.mk b1 b2) (Pt.mk c0 c2))) (tw (Pt.mk a1 a2) (Pt.mk b1 b2) (Pt.mk c1 c2))) (tw (Pt.mk a1 a2) (Pt.mk b1 b2) (Pt.mk c1 c3))) (tw (Pt.mk a1 a2) (Pt.mk b1 b2) (Pt.mk c0 c3))) (tw (Pt.mk a1 a2) (Pt.mk b1 b3) (Pt.mk c0 c2))) (tw (Pt.mk a1 a2) (Pt.mk b1 b3) (Pt.mk c1 c2))) (tw (Pt.mk a1 a2) (Pt.mk b1 b3) (Pt.mk c1 c3))) (tw (Pt.mk a1 a2) (Pt.mk b1 b3) (Pt.mk c0 c3))) (tw (Pt.mk a1 a2) (Pt.mk b0 b3) (Pt.mk c0 c2))) (tw (Pt.mk a1 a2) (Pt.mk b0 b3) (Pt.mk c1 c2))) (tw (Pt.mk a1 a2) (Pt.mk b0 b3) (Pt.mk c1 c3))) (tw (Pt.mk a1 a2) (Pt.mk b0 b3) (Pt.mk c0 c3))) (tw (Pt.mk a1 a3) (Pt.mk b0 b2) (Pt.mk c0 c2))) (tw (Pt.mk a1 a3) (Pt.mk b0 b2) (Pt.mk c1 c2))) (tw (Pt.mk a1 a3) (Pt.mk b0 b2) (Pt.mk c1 c3))) (tw (Pt.mk a1 a3) (Pt.mk b0 b2) (Pt.mk c0 c3))) (tw (Pt.mk a1 a3) (Pt.mk b1 b2) (Pt.mk c0 c2))) (tw (Pt.mk a1 a3) (Pt.mk b1 b2) (Pt.mk c1 c2))) (tw (Pt.mk a1 a3) (Pt.mk b1 b2) (Pt.mk c1 c3))) (tw (Pt.mk a1 a3) (Pt.mk b1 b2) (Pt.mk c0 c3))) (tw (Pt.mk a1 a3) (Pt.mk b1 b3) (Pt.mk c0 c2))) (tw (Pt.mk a1 a3) (Pt.mk b1 b3) (Pt.mk c1 c2))) (tw (Pt.mk a1 a3) (Pt.mk b1 b3) (Pt.mk c1 c3))) (tw (Pt.mk a1 a3) (Pt.mk b1 b3) (Pt.mk c0 c3))) (tw (Pt.mk a1 a3) (Pt.mk b0 b3) (Pt.mk c0 c2))) (tw (Pt.mk a1 a3) (Pt.mk b0 b3) (Pt.mk c1 c2))) (tw (Pt.mk a1 a3) (Pt.mk b0 b3) (Pt.mk c1 c3))) (tw (Pt.mk a1 a3) (Pt.mk b0 b3) (Pt.mk c0 c3))) (tw (Pt.mk a0 a3) (Pt.mk b0 b2) (Pt.mk c0 c2))) (tw (Pt.mk a0 a3) (Pt.mk b0 b2) (Pt.mk c1 c2))) (tw (Pt.mk a0 a3) (Pt.mk b0 b2) (Pt.mk c1 c3))) (tw (Pt.mk a0 a3) (Pt.mk b0 b2) (Pt.mk c0 c3))) (tw (Pt.mk a0 a3) (Pt.mk b1 b2) (Pt.mk c0 c2))) (tw (Pt.mk a0 a3) (Pt.mk b1 b2) (Pt.mk c1 c2))) (tw (Pt.mk a0 a3) (Pt.mk b1 b2) (Pt.mk c1 c3))) (tw (Pt.mk a0 a3) (Pt.mk b1 b2) (Pt.mk c0 c3))) (tw (Pt.mk a0 a3) (Pt.mk b1 b3) (Pt.mk c0 c2))) (tw (Pt.mk a0 a3) (Pt.mk b1 b3) (Pt.mk c1 c2))) (tw (Pt.mk a0 a3) (Pt.mk b1 b3) (Pt.mk c1 c3))) (tw (Pt.mk a0 a3) (Pt.mk b1 b3) (Pt.mk c0 c3))) (tw (Pt.mk a0 a3) (Pt.mk b0 b3) (Pt.mk c0 c2))) (tw (Pt.mk a0 a3) (Pt.mk b0 b3) (Pt.mk c1 c2))) (tw (Pt.mk a0 a3) (Pt.mk b0 b3) (Pt.mk c1 c3))) (tw (Pt.mk a0 a3) (Pt.mk b0 b3) (Pt.mk c0 c3)))], V.bool true]) Hp.empty))) := fun Q => by kernel_rfl
  refine vcP en9_ok 200 ?_
  rw [F]
  try clear F
  cases ha : Box.proper (Box.mk a0 a1 a2 a3) <;> cases hb : Box.proper (Box.mk b0 b1 b2 b3) <;> cases hc : Box.proper (Box.mk c0 c1 c2 c3) <;>
    simp only [brW, Bool.not_true, Bool.not_false, Bool.or_true, Bool.true_or, Bool.or_false, Bool.false_or, cond_true, cond_false]
  rotate_left 7
  · repeat (refine exI () (by exact properO_of (by assumption)) ?_)
    simp only [spreadLo, spreadHi, spreadOk, ha, hb, hc, Bool.and_true, cond_true]
    kernel_rfl
  all_goals simp only [spreadLo, spreadHi, spreadOk, ha, hb, hc, Bool.and_true, Bool.and_false, Bool.false_and, Bool.true_and, cond_true, cond_false]
theorem r92 : ∀ args v, p92 args = some v → Pev cx0 92 args v := by
  intro args v h
  unfold p92 at h
  split at h
  · cases h; apply t92
  · cases h
theorem q92 : ∀ args T, lift p92 args = some T → ∀ K, T K → ∃ v, Pev cx0 92 args v ∧ K v := lift_ok r92
theorem tab10_ok : TabOk cx0 tab10 := by
  have e : tab10 = [(18, (lift p37)), (33, (lift p84)), (34, (lift p34)), (37, (lift p37)), (39, (lift p34)), (66, (lift p84)), (67, (lift p218)), (84, (lift p84)), (86, (lift p86)), (87, (lift p87)), (88, (lift p88)), (91, (lift p84)), (92, (lift p92)), (93, (lift p88)), (100, (lift p100)), (105, (lift p88)), (120, (lift p160)), (126, (lift p84)), (144, (lift p84)), (158, (lift p84)), (160, (lift p160)), (161, q161T), (162, (lift p162)), (163, q163T), (168, (lift p168)), (173, q173T), (218, (lift p218)), (219, q219T), (254, q254T), (255, q255T), (256, q256T), (257, q257T), (258, q258T), (259, q259T), (288, q288T), (289, (lift p289)), (290, (lift p290)), (291, (lift p291)), (292, (lift p292)), (319, (lift p319)), (324, (lift p324)), (325, (lift p325))].foldl (fun t x => t.set x.1 x.2) .nil := by kernel_rfl
  rw [e]
  refine TabOk.all fun x hx => ?_
  simp only [List.mem_cons, List.not_mem_nil, or_false] at hx
  rcases hx with rfl | rfl | rfl | rfl | rfl | rfl | rfl | rfl | rfl | rfl | rfl | rfl | rfl | rfl | rfl | rfl | rfl | rfl | rfl | rfl | rfl | rfl | rfl | rfl | rfl | rfl | rfl | rfl | rfl | rfl | rfl | rfl | rfl | rfl | rfl | rfl | rfl | rfl | rfl | rfl | rfl | rfl
  · exact q18
  · exact q33
  · exact q34
  · exact q37
  · exact q39
  · exact q66
  · exact q67
  · exact q84
  · exact q86
  · exact q87
  · exact q88
  · exact q91
  · exact q92
  · exact q93
  · exact q100
  · exact q105
  · exact q120
  · exact q126
  · exact q144
  · exact q158
  · exact q160
  · exact q161
  · exact q162
  · exact q163
  · exact q168
  · exact q173
  · exact q218
  · exact q219
  · exact q254
  · exact q255
  · exact q256
  · exact q257
  · exact q258
  · exact q259
  · exact q288
  · exact q289
  · exact q290
  · exact q291
  · exact q292
  · exact q319
  · exact q324
  · exact q325
theorem en10_ok : EnOk cx0 (enOf elT tab10) := enOf_ok elT_ok tab10_ok
theorem t38 (a0 a1 a2 a3 b0 b1 b2 b3 px py : Int) : Pev cx0 38 [.agg [.int .i64 a0, .int .i64 a1, .int .i64 a2, .int .i64 a3], .agg [.int .i64 b0, .int .i64 b1, .int .i64 b2, .int .i64 b3], .agg [.int .i64 px, .int .i64 py]] (.tup [.int .i64 (edgeN ⟨a0, a1, a2, a3⟩ ⟨b0, b1, b2, b3⟩ ⟨px, py⟩), .bool (edgeC ⟨a0, a1, a2, a3⟩ ⟨b0, b1, b2, b3⟩ ⟨px, py⟩)]) := by
  have F : ∀ Q : Rs → Prop, vc cx0 (enOf elT tab10) 60 (.pcall 38 [.agg [.int .i64 a0, .int .i64 a1, .int .i64 a2, .int .i64 a3], .agg [.int .i64 b0, .int .i64 b1, .int .i64 b2, .int .i64 b3], .agg [.int .i64 px, .int .i64 py]]) Q = (brW (!(decide (a1 < px) && decide (b1 < px) || decide (a0 > px) && decide (b0 > px) || decide (a3 < py) && decide (b3 < py) || decide (a2 > py) && decide (b2 > py) || decide (spreadLo (Box.mk a0 a1 a2 a3) (Box.mk b0 b1 b2 b3) (Box.mk px px py py) > 0) || decide (spreadHi (Box.mk a0 a1 a2 a3) (Box.mk b0 b1 b2 b3) (Box.mk px px py py) < 0))) (Q (Rs.val (V.tup [V.int IntKind.i64 0, V.bool false]) Hp.empty)) (brW (decide (a1 < px) && decide (b1 < px)) (Q (Rs.val (V.tup [V.int IntKind.i64 0, V.bool true]) Hp.empty)) (brW (!decide (a3 ≤ py)) (brW (!decide (a2 > py)) (Q (Rs.val (V.tup [V.int IntKind.i64 0, V.bool false]) Hp.empty)) (brW (!decide (b3 ≤ py)) (brW (!decide (b2 > py)) (Q (Rs.val (V.tup [V.int IntKind.i64 0, V.bool false]) Hp.empty)) (brW (decide (a3 ≤ py)) (brW (decide (b2 > py)) (brW (decide (spreadLo (Box.mk a0 a1 a2 a3) (Box.mk b0 b1 b2 b3) (Box.mk px px py py) > 0)) (Q (Rs.val (V.tup [V.int IntKind.i64 1, V.bool true]) Hp.empty)) (brW (decide (a2 > py)) (brW (decide (b3 ≤ py)) (brW (decide (spreadHi (Box.mk a0 a1 a2 a3) (Box.mk b0 b1 b2 b3) (Box.mk px px py py) < 0)) (Q (Rs.val (V.tup [V.int IntKind.i64 (-1), V.bool true]) Hp.empty)) (Q (Rs.val (V.tup [V.int IntKind.i64 0, V.bool true]) Hp.empty))) (Q (Rs.val (V.tup [V.int IntKind.i64 0, V.bool true]) Hp.empty))) (Q (Rs.val (V.tup [V.int IntKind.i64 0, V.bool true]) Hp.empty)))) (brW (decide (a2 > py)) (brW (decide (b3 ≤ py)) (brW (decide (spreadHi (Box.mk a0 a1 a2 a3) (Box.mk b0 b1 b2 b3) (Box.mk px px py py) < 0)) (Q (Rs.val (V.tup [V.int IntKind.i64 (-1), V.bool true]) Hp.empty)) (Q (Rs.val (V.tup [V.int IntKind.i64 0, V.bool true]) Hp.empty))) (Q (Rs.val (V.tup [V.int IntKind.i64 0, V.bool true]) Hp.empty))) (Q (Rs.val (V.tup [V.int IntKind.i64 0, V.bool true]) Hp.empty)))) (brW (decide (a2 > py)) (brW (decide (b3 ≤ py)) (brW (decide (spreadHi (Box.mk a0 a1 a2 a3) (Box.mk b0 b1 b2 b3) (Box.mk px px py py) < 0)) (Q (Rs.val (V.tup [V.int IntKind.i64 (-1), V.bool true]) Hp.empty)) (Q (Rs.val (V.tup [V.int IntKind.i64 0, V.bool true]) Hp.empty))) (Q (Rs.val (V.tup [V.int IntKind.i64 0, V.bool true]) Hp.empty))) (Q (Rs.val (V.tup [V.int IntKind.i64 0, V.bool true]) Hp.empty))))) (brW (decide (a3 ≤ py)) (brW (decide (b2 > py)) (brW (decide (spreadLo (Box.mk a0 a1 a2 a3) (Box.mk b0 b1 b2 b3) (Box.mk px px py py) > 0)) (Q (Rs.val (V.tup [V.int IntKind.i64 1, V.bool true]) Hp.empty)) (brW (decide (a2 > py)) (brW (decide (b3 ≤ py)) (brW (decide (spreadHi (Box.mk a0 a1 a2 a3) (Box.mk b0 b1 b2 b3) (Box.mk px px py py) < 0)) (Q (Rs.val (V.tup [V.int IntKind.i64 (-1), V.bool true]) Hp.empty)) (Q (Rs.val (V.tup [V.int IntKind.i64 0, V.bool true]) Hp.empty))) (Q (Rs.val (V.tup [V.int IntKind.i64 0, V.bool true]) Hp.empty))) (Q (Rs.val (V.tup [V.int IntKind.i64 0, V.bool true]) Hp.empty)))) (brW (decide (a2 > py)) (brW (decide (b3 ≤ py)) (brW (decide (spreadHi (Box.mk a0 a1 a2 a3) (Box.mk b0 b1 b2 b3) (Box.mk px px py py) < 0)) (Q (Rs.val (V.tup [V.int IntKind.i64 (-1), V.bool true]) Hp.empty)) (Q (Rs.val (V.tup [V.int IntKind.i64 0, V.bool true]) Hp.empty))) (Q (Rs.val (V.tup [V.int IntKind.i64 0, V.bool true]) Hp.empty))) (Q (Rs.val (V.tup [V.int IntKind.i64 0, V.bool true]) Hp.empty)))) (brW (decide (a2 > py)) (brW (decide (b3 ≤ py)) (brW (decide (spreadHi (Box.mk a0 a1 a2 a3) (Box.mk b0 b1 b2 b3) (Box.mk px px py py) < 0)) (Q (Rs.val (V.tup [V.int IntKind.i64 (-1), V.bool true]) Hp.empty)) (Q (Rs.val (V.tup [V.int IntKind.i64 0, V.bool true]) Hp.empty))) (Q (Rs.val (V.tup [V.int IntKind.i64 0, V.bool true]) Hp.empty))) (Q (Rs.val (V.tup [V.int IntKind.i64 0, V.bool true]) Hp.empty)))))) (brW (!decide (b3 ≤ py)) (brW (!decide (b2 > py)) (Q (Rs.val (V.tup [V.int IntKind.i64 0, V.bool false]) Hp.empty)) (brW (decide (a3 ≤ py)) (brW (decide (b2 > py)) (brW (decide (spreadLo (Box.mk a0 a1 a2 a3) (Box.mk b0 b1 b2 b3) (Box.mk px px py py) > 0)) (Q (Rs.val (V.tup [V.int IntKind.i64 1, V.bool true]) Hp.empty)) (brW (decide (a2 > py)) (brW (decide (b3 ≤ py)) (brW (decide (spreadHi (Box.mk a0 a1 a2 a3) (Box.mk b0 b1 b2 b3) (Box.mk px px py py) < 0)) (Q (Rs.val (V.tup [V.int IntKind.i64 (-1), V.bool true]) Hp.empty)) (Q (Rs.val (V.tup [V.int IntKind.i64 0, V.bool true]) Hp.empty))) (Q (Rs.val (V.tup [V.int IntKind.i64 0, V.bool true]) Hp.empty))) (Q (Rs.val (V.tup [V.int IntKind.i64 0, V.bool true]) Hp.empty)))) (brW (decide (a2 > py)) (brW (decide (b3 ≤ py)) (brW (decide (spreadHi (Box.mk a0 a1 a2 a3) (Box.mk b0 b1 b2 b3) (Box.mk px px py py) < 0)) (Q (Rs.val (V.tup [V.int IntKind.i64 (-1), V.bool true]) Hp.empty)) (Q (Rs.val (V.tup [V.int IntKind.i64 0, V.bool true]) Hp.empty))) (Q (Rs.val (V.tup [V.int IntKind.i64 0, V.bool true]) Hp.empty))) (Q (Rs.val (V.tup [V.int IntKind.i64 0, V.bool true]) Hp.empty)))) (brW (decide (a2 > py)) (brW (decide (b3 ≤ py)) (brW (decide (spreadHi (Box.mk a0 a1 a2 a3) (Box.mk b0 b1 b2 b3) (Box.mk px px py py) < 0)) (Q (Rs.val (V.tup [V.int IntKind.i64 (-1), V.bool true]) Hp.empty)) (Q (Rs.val (V.tup [V.int IntKind.i64 0, V.bool true]) Hp.empty))) (Q (Rs.val (V.tup [V.int IntKind.i64 0, V.bool true]) Hp.empty))) (Q (Rs.val (V.tup [V.int IntKind.i64 0, V.bool true]) Hp.empty))))) (brW (decide (a3 ≤ py)) (brW (decide (b2 > py)) (brW (decide (spreadLo (Box.mk a0 a1 a2 a3) (Box.mk b0 b1 b2 b3) (Box.mk px px py py) > 0)) (Q (Rs.val (V.tup [V.int IntKind.i64 1, V.bool true]) Hp.empty)) (brW (decide (a2 > py)) (brW (decide (b3 ≤ py)) (brW (decide (spreadHi (Box.mk a0 a1 a2 a3) (Box.mk b0 b1 b2 b3) (Box.mk px px py py) < 0)) (Q (Rs.val (V.tup [V.int IntKind.i64 (-1), V.bool true]) Hp.empty)) (Q (Rs.val (V.tup [V.int IntKind.i64 0, V.bool true]) Hp.empty))) (Q (Rs.val (V.tup [V.int IntKind.i64 0, V.bool true]) Hp.empty))) (Q (Rs.val (V.tup [V.int IntKind.i64 0, V.bool true]) Hp.empty)))) (brW (decide (a2 > py)) (brW (decide (b3 ≤ py)) (brW (decide (spreadHi (Box.mk a0 a1 a2 a3) (Box.mk b0 b1 b2 b3) (Box.mk px px py py) < 0)) (Q (Rs.val (V.tup [V.int IntKind.i64 (-1), V.bool true]) Hp.empty)) (Q (Rs.val (V.tup [V.int IntKind.i64 0, V.bool true]) Hp.empty))) (Q (Rs.val (V.tup [V.int IntKind.i64 0, V.bool true]) Hp.empty))) (Q (Rs.val (V.tup [V.int IntKind.i64 0, V.bool true]) Hp.empty)))) (brW (decide (a2 > py)) (brW (decide (b3 ≤ py)) (brW (decide (spreadHi (Box.mk a0 a1 a2 a3) (Box.mk b0 b1 b2 b3) (Box.mk px px py py) < 0)) (Q (Rs.val (V.tup [V.int IntKind.i64 (-1), V.bool true]) Hp.empty)) (Q (Rs.val (V.tup [V.int IntKind.i64 0, V.bool true]) Hp.empty))) (Q (Rs.val (V.tup [V.int IntKind.i64 0, V.bool true]) Hp.empty))) (Q (Rs.val (V.tup [V.int IntKind.i64 0, V.bool true]) Hp.empty)))))))) := fun Q => by kernel_rfl
  refine vcP en10_ok 60 ?_
  rw [F]
  try clear F
  simp only [edgeN, edgeC, edgeBad, edgeMix, edgeW]
  generalize (decide (a1 < px) && decide (b1 < px)) = w
  generalize (decide (a0 > px) && decide (b0 > px)) = r
  generalize (decide (a3 < py) && decide (b3 < py)) = u
  generalize decide (spreadLo _ _ _ > 0) = lo
  generalize decide (spreadHi _ _ _ < 0) = hi
  generalize decide (a3 ≤ py) = la
  generalize decide (b3 ≤ py) = lb
  generalize decide (a2 > py) = ha
  generalize decide (b2 > py) = hb
  cases w <;> cases r <;> cases u <;> cases lo <;> cases hi <;> cases la <;> cases lb <;> cases ha <;> cases hb <;> rfl
theorem r38 : ∀ args v, p38 args = some v → Pev cx0 38 args v := by
  intro args v h
  unfold p38 at h
  split at h
  · cases h; apply t38
  · cases h
theorem q38 : ∀ args T, lift p38 args = some T → ∀ K, T K → ∃ v, Pev cx0 38 args v ∧ K v := lift_ok r38
theorem t40 (a0 a1 a2 a3 b0 b1 b2 b3 px py : Int) : Pev cx0 40 [.agg [.int .i64 a0, .int .i64 a1, .int .i64 a2, .int .i64 a3], .agg [.int .i64 b0, .int .i64 b1, .int .i64 b2, .int .i64 b3], .agg [.int .i64 px, .int .i64 py]] (.tup [.int .i64 (edgeN ⟨a0, a1, a2, a3⟩ ⟨b0, b1, b2, b3⟩ ⟨px, py⟩), .bool (edgeC ⟨a0, a1, a2, a3⟩ ⟨b0, b1, b2, b3⟩ ⟨px, py⟩)]) := by
  have F : ∀ Q : Rs → Prop, vc cx0 (enOf elT tab10) 60 (.pcall 40 [.agg [.int .i64 a0, .int .i64 a1, .int .i64 a2, .int .i64 a3], .agg [.int .i64 b0, .int .i64 b1, .int .i64 b2, .int .i64 b3], .agg [.int .i64 px, .int .i64 py]]) Q = (brW (!(decide (a1 < px) && decide (b1 < px)) && !(decide (a0 > px) && decide (b0 > px)) && !(decide (a3 < py) && decide (b3 < py)) && !(decide (a2 > py) && decide (b2 > py)) && !(decide (spreadLo (Box.mk a0 a1 a2 a3) (Box.mk b0 b1 b2 b3) (Box.mk px px py py) > 0) || decide (spreadHi (Box.mk a0 a1 a2 a3) (Box.mk b0 b1 b2 b3) (Box.mk px px py py) < 0))) (Q (Rs.val (V.tup [V.int IntKind.i64 0, V.bool false]) Hp.empty)) (brW (decide (a1 < px) && decide (b1 < px)) (Q (Rs.val (V.tup [V.int IntKind.i64 0, V.bool true]) Hp.empty)) (brW (!decide (a3 ≤ py) && !decide (a2 > py) || !decide (b3 ≤ py) && !decide (b2 > py)) (Q (Rs.val (V.tup [V.int IntKind.i64 0, V.bool false]) Hp.empty)) (brW (decide (a3 ≤ py) && decide (b2 > py) && decide (spreadLo (Box.mk a0 a1 a2 a3) (Box.mk b0 b1 b2 b3) (Box.mk px px py py) > 0)) (Q (Rs.val (V.tup [V.int IntKind.i64 1, V.bool true]) Hp.empty)) (brW (decide (a2 > py) && decide (b3 ≤ py) && decide (spreadHi (Box.mk a0 a1 a2 a3) (Box.mk b0 b1 b2 b3) (Box.mk px px py py) < 0)) (Q (Rs.val (V.tup [V.int IntKind.i64 (-1), V.bool true]) Hp.empty)) (Q (Rs.val (V.tup [V.int IntKind.i64 0, V.bool true]) Hp.empty))))))) := fun Q => by kernel_rfl
  refine vcP en10_ok 60 ?_
  rw [F]
  try clear F
  simp only [edgeN, edgeC, edgeBad, edgeMix, edgeW]
  generalize (decide (a1 < px) && decide (b1 < px)) = w
  generalize (decide (a0 > px) && decide (b0 > px)) = r
  generalize (decide (a3 < py) && decide (b3 < py)) = u
  generalize decide (spreadLo _ _ _ > 0) = lo
  generalize decide (spreadHi _ _ _ < 0) = hi
  generalize decide (a3 ≤ py) = la
  generalize decide (b3 ≤ py) = lb
  generalize decide (a2 > py) = ha
  generalize decide (b2 > py) = hb
  cases w <;> cases r <;> cases u <;> cases lo <;> cases hi <;> cases la <;> cases lb <;> cases ha <;> cases hb <;> rfl
theorem r40 : ∀ args v, p38 args = some v → Pev cx0 40 args v := by
  intro args v h
  unfold p38 at h
  split at h
  · cases h; apply t40
  · cases h
theorem q40 : ∀ args T, lift p38 args = some T → ∀ K, T K → ∃ v, Pev cx0 40 args v ∧ K v := lift_ok r40
theorem tab11_ok : TabOk cx0 tab11 := by
  have e : tab11 = [(18, (lift p37)), (33, (lift p84)), (34, (lift p34)), (37, (lift p37)), (38, (lift p38)), (39, (lift p34)), (40, (lift p38)), (66, (lift p84)), (67, (lift p218)), (84, (lift p84)), (86, (lift p86)), (87, (lift p87)), (88, (lift p88)), (91, (lift p84)), (92, (lift p92)), (93, (lift p88)), (100, (lift p100)), (105, (lift p88)), (120, (lift p160)), (126, (lift p84)), (144, (lift p84)), (158, (lift p84)), (160, (lift p160)), (161, q161T), (162, (lift p162)), (163, q163T), (168, (lift p168)), (173, q173T), (218, (lift p218)), (219, q219T), (254, q254T), (255, q255T), (256, q256T), (257, q257T), (258, q258T), (259, q259T), (288, q288T), (289, (lift p289)), (290, (lift p290)), (291, (lift p291)), (292, (lift p292)), (319, (lift p319)), (324, (lift p324)), (325, (lift p325))].foldl (fun t x => t.set x.1 x.2) .nil := by kernel_rfl
  rw [e]
  refine TabOk.all fun x hx => ?_
  simp only [List.mem_cons, List.not_mem_nil, or_false] at hx
  rcases hx with rfl | rfl | rfl | rfl | rfl | rfl | rfl | rfl | rfl | rfl | rfl | rfl | rfl | rfl | rfl | rfl | rfl | rfl | rfl | rfl | rfl | rfl | rfl | rfl | rfl | rfl | rfl | rfl | rfl | rfl | rfl | rfl | rfl | rfl | rfl | rfl | rfl | rfl | rfl | rfl | rfl | rfl | rfl | rfl
  · exact q18
  · exact q33
  · exact q34
  · exact q37
  · exact q38
  · exact q39
  · exact q40
  · exact q66
  · exact q67
  · exact q84
  · exact q86
  · exact q87
  · exact q88
  · exact q91
  · exact q92
  · exact q93
  · exact q100
  · exact q105
  · exact q120
  · exact q126
  · exact q144
  · exact q158
  · exact q160
  · exact q161
  · exact q162
  · exact q163
  · exact q168
  · exact q173
  · exact q218
  · exact q219
  · exact q254
  · exact q255
  · exact q256
  · exact q257
  · exact q258
  · exact q259
  · exact q288
  · exact q289
  · exact q290
  · exact q291
  · exact q292
  · exact q319
  · exact q324
  · exact q325
theorem enL_ok : EnOk cx0 (enOf elT tab11) := enOf_ok elT_ok tab11_ok
end Go.Lf
end
