/- By an AI agent. What is proved here: the law of rings for 3 boxes. -/
import Derived.Test.YtegoogghlakghaaGreatFlr
section
set_option linter.unusedVariables false
set_option linter.unusedSimpArgs false
set_option maxRecDepth 100000
set_option maxHeartbeats 2000000
namespace Go.Lf
open Go Go.Ev Go.Sp Go.Proofs Go.Proofs.YtegoogghlakghaaGreat
theorem seg15_3_1 (cl : Bool) (p : Pt) (b0 b1 b2 : Box) (β clr : Bool) (rs : List (List V)) (hr : RawV (.imm β 1 clr rs)) (h0 : b0.proper = true) (h1 : b1.proper = true) (h2 : b2.proper = true) (g : Nat → V) : ∃ g', Evs cx0 (.code c6b ((Fam.of mk6 (fun _ : Unit => vals6 cl [b0.cs, b1.cs, b2.cs] (.imm β 1 clr rs) (ringN [b0, b1, b2] p) (ringC [b0, b1, b2] p)) (oP p)).st 1 () g)) (.out .ret ((Fam.of mk6E (vals6E true) (oP p)).st 1 () g')) := by
  refine seg_of (N := 400) enW6_ok (ok6 p rfl) (ok6E p) (by simp) (fun g XX QQ hQ => ?_) g
  have F : vc cx0 enW6 400 (.code c6b ((Fam.of mk6 (fun _ : Unit => vals6 cl [b0.cs, b1.cs, b2.cs] (.imm β 1 clr rs) (ringN [b0, b1, b2] p) (ringC [b0, b1, b2] p)) (oP p)).st 1 () g)) (onLoopK mk6 mk6E 1 XX QQ) = (tail3 (.imm β 1 clr rs) b0 b1 b2 p (fun b => QQ .ret [.bool b] [some (Ob.cells [p.cs] 2)])) := by kernel_rfl
  rw [F]
  exact tail3_ok _ hr b0 b1 b2 p h0 h1 h2 _ hQ
theorem seg9_3_1 (cl : Bool) (p : Pt) (b0 b1 b2 : Box) (β clr : Bool) (rs : List (List V)) (hr : RawV (.imm β 1 clr rs)) (g : Nat → V) : ∃ g', Evs cx0 (.code c6a ((Fam.of mk6 (fun _ : Unit => vals6 cl [b0.cs, b1.cs, b2.cs] (.imm β 1 clr rs) (ringN [b0, b1, b2] p) (ringC [b0, b1, b2] p)) (oP p)).st 1 () g)) (.out .ret ((Fam.of mk6E (vals6E true) (oP p)).st 1 () g')) := by
  refine seg_of (N := 400) (enX_ok (k := 2015) (T6_ok (cc := c6b) (C := AllP [b0, b1, b2]) (vs := vals6 cl [b0.cs, b1.cs, b2.cs] (.imm β 1 clr rs) (ringN [b0, b1, b2] p) (ringC [b0, b1, b2] p)) (p := p) rfl fun hC g => seg15_3_1 cl p b0 b1 b2 β clr rs hr (hC b0 (by simp)) (hC b1 (by simp)) (hC b2 (by simp)) g)) (ok6 p rfl) (ok6E p) (by simp) (fun g XX QQ hQ => ?_) g
  have F : vc cx0 (enX 2015 (T6 c6b (AllP [b0, b1, b2]) (vals6 cl [b0.cs, b1.cs, b2.cs] (.imm β 1 clr rs) (ringN [b0, b1, b2] p) (ringC [b0, b1, b2] p)) p)) 400 (.code c6a ((Fam.of mk6 (fun _ : Unit => vals6 cl [b0.cs, b1.cs, b2.cs] (.imm β 1 clr rs) (ringN [b0, b1, b2] p) (ringC [b0, b1, b2] p)) (oP p)).st 1 () g)) (onLoopK mk6 mk6E 1 XX QQ) = (brW (!b0.proper) (QQ .ret [.bool (!ringC [b0, b1, b2] p)] [some (Ob.cells [p.cs] 2)]) (brW (!b1.proper) (QQ .ret [.bool (!ringC [b0, b1, b2] p)] [some (Ob.cells [p.cs] 2)]) (brW (!b2.proper) (QQ .ret [.bool (!ringC [b0, b1, b2] p)] [some (Ob.cells [p.cs] 2)]) (isC c6b c6b ∧ AllP [b0, b1, b2] ∧ (vals6 cl [b0.cs, b1.cs, b2.cs] (.imm β 1 clr rs) (ringN [b0, b1, b2] p) (ringC [b0, b1, b2] p) = vals6 cl [b0.cs, b1.cs, b2.cs] (.imm β 1 clr rs) (ringN [b0, b1, b2] p) (ringC [b0, b1, b2] p)) ∧ (([some (Ob.cells [p.cs] 2)] : List (Option Ob)) = [some (Ob.cells [p.cs] 2)]) ∧ ∀ g : Nat → V, QQ .ret [.bool true] [some (Ob.cells [p.cs] 2)])))) := by kernel_rfl
  rw [F]
  clear F
  refine brN (fun h0 => by rw [not_ring (b := b0) (by simp) h0]; exact hQ) (fun h0 => ?_)
  refine brN (fun h1 => by rw [not_ring (b := b1) (by simp) h1]; exact hQ) (fun h1 => ?_)
  refine brN (fun h2 => by rw [not_ring (b := b2) (by simp) h2]; exact hQ) (fun h2 => ?_)
  refine ⟨rfl, fun b hb => ?_, rfl, rfl, fun g => hQ⟩
  simp only [List.mem_cons, List.not_mem_nil, or_false] at hb
  rcases hb with rfl | rfl | rfl <;> assumption
theorem law6_3_1 (cl : Bool) (p : Pt) (b0 b1 b2 : Box) (k : Int) (β clr : Bool) (rs : List (List V)) (hk : 0 ≤ k ∧ k < 256) (hr : RawV (.imm β 1 clr rs)) : Pev cx0 6 [.imm false 4 cl [b0.cs, b1.cs, b2.cs], .agg p.cs, .int .u8 k, .imm β 1 clr rs] (.bool true) := by
  have F : ∀ QR : Rs → Prop, vc cx0 (enX 1009 (T6 c6a True (vals6 cl [b0.cs, b1.cs, b2.cs] (.imm β 1 clr rs) (ringN [b0, b1, b2] p) (ringC [b0, b1, b2] p)) p)) 400 (.pcall 6 [.imm false 4 cl [b0.cs, b1.cs, b2.cs], .agg p.cs, .int .u8 k, .imm β 1 clr rs]) QR = (Nat.le (List.length [b0, b1, b2]) 20 ∧ brW (decide (Int.tmod (w64 k) (3 : Int) = (2 : Int))) (Nat.le (List.length [b2, b0, b1]) 20 ∧ brW (!ringN [b0, b1, b2] p == ringN [b2, b0, b1] p || !ringC [b0, b1, b2] p == ringC [b2, b0, b1] p) (QR (Rs.val (V.bool false) Hp.empty)) (isC c6a c6a ∧ True ∧ (vals6 cl [b0.cs, b1.cs, b2.cs] (.imm β 1 clr rs) (ringN [b0, b1, b2] p) (ringC [b0, b1, b2] p) = vals6 cl [b0.cs, b1.cs, b2.cs] (.imm β 1 clr rs) (ringN [b0, b1, b2] p) (ringC [b0, b1, b2] p)) ∧ (([some (Ob.cells [p.cs] 2)] : List (Option Ob)) = [some (Ob.cells [p.cs] 2)]) ∧ ∀ g : Nat → V, QR (Rs.val (V.bool true) Hp.empty))) (brW (decide (Int.tmod (w64 k) (3 : Int) = (1 : Int))) (Nat.le (List.length [b1, b2, b0]) 20 ∧ brW (!ringN [b0, b1, b2] p == ringN [b1, b2, b0] p || !ringC [b0, b1, b2] p == ringC [b1, b2, b0] p) (QR (Rs.val (V.bool false) Hp.empty)) (isC c6a c6a ∧ True ∧ (vals6 cl [b0.cs, b1.cs, b2.cs] (.imm β 1 clr rs) (ringN [b0, b1, b2] p) (ringC [b0, b1, b2] p) = vals6 cl [b0.cs, b1.cs, b2.cs] (.imm β 1 clr rs) (ringN [b0, b1, b2] p) (ringC [b0, b1, b2] p)) ∧ (([some (Ob.cells [p.cs] 2)] : List (Option Ob)) = [some (Ob.cells [p.cs] 2)]) ∧ ∀ g : Nat → V, QR (Rs.val (V.bool true) Hp.empty))) (brW (decide (Int.tmod (w64 k) (3 : Int) = (0 : Int))) (Nat.le (List.length [b0, b1, b2]) 20 ∧ brW (!ringN [b0, b1, b2] p == ringN [b0, b1, b2] p || !ringC [b0, b1, b2] p == ringC [b0, b1, b2] p) (QR (Rs.val (V.bool false) Hp.empty)) (isC c6a c6a ∧ True ∧ (vals6 cl [b0.cs, b1.cs, b2.cs] (.imm β 1 clr rs) (ringN [b0, b1, b2] p) (ringC [b0, b1, b2] p) = vals6 cl [b0.cs, b1.cs, b2.cs] (.imm β 1 clr rs) (ringN [b0, b1, b2] p) (ringC [b0, b1, b2] p)) ∧ (([some (Ob.cells [p.cs] 2)] : List (Option Ob)) = [some (Ob.cells [p.cs] 2)]) ∧ ∀ g : Nat → V, QR (Rs.val (V.bool true) Hp.empty))) (False)))) := fun QR => by kernel_rfl
  refine vcP (enX_ok (k := 1009) (T6_ok (cc := c6a) (C := True) (vs := vals6 cl [b0.cs, b1.cs, b2.cs] (.imm β 1 clr rs) (ringN [b0, b1, b2] p) (ringC [b0, b1, b2] p)) (p := p) rfl fun _ g => seg9_3_1 cl p b0 b1 b2 β clr rs hr g)) 400 ?_
  rw [F]
  clear F
  refine ⟨Nat.le_of_ble_eq_true rfl, ?_⟩
  refine brI (fun g => ⟨Nat.le_of_ble_eq_true rfl, brI (fun h => ?_) (fun _ => ⟨rfl, trivial, rfl, rfl, fun _ => rfl⟩)⟩) (fun g2 => ?_)
  · exfalso
    obtain ⟨e1, e2⟩ := rot3_2 b0 b1 b2 p
    rw [e1, e2] at h
    simp at h
  refine brI (fun g => ⟨Nat.le_of_ble_eq_true rfl, brI (fun h => ?_) (fun _ => ⟨rfl, trivial, rfl, rfl, fun _ => rfl⟩)⟩) (fun g1 => ?_)
  · exfalso
    obtain ⟨e1, e2⟩ := rot3_1 b0 b1 b2 p
    rw [e1, e2] at h
    simp at h
  refine brI (fun g => ⟨Nat.le_of_ble_eq_true rfl, brI (fun h => ?_) (fun _ => ⟨rfl, trivial, rfl, rfl, fun _ => rfl⟩)⟩) (fun g0 => ?_)
  · exfalso; simp at h
  simp only [decide_eq_false_iff_not] at g0 g1 g2
  rw [w64_id (by omega) (by omega)] at g0 g1 g2
  have t1 := Int.tmod_nonneg (a := k) 3 (by omega)
  have t2 := Int.tmod_lt_of_pos k (b := 3) (by omega)
  omega
end Go.Lf
end
