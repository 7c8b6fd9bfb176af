/- By an AI agent. What is proved here: the reference's winding computes the plain winding. -/
import Derived.Test.YtegoogghlakghaaGreatFlb
import Derived.Test.YtegoogghlakghaaGreatFe
import Derived.Test.YtegoogghlakghaaGreatFrg
section
set_option linter.unusedVariables false
set_option linter.unusedSimpArgs false
set_option maxRecDepth 100000
set_option maxHeartbeats 1000000
namespace Go.Lf
open Go Go.Ev Go.Sp Go.Proofs Go.Proofs.YtegoogghlakghaaGreat
noncomputable def c118 : Code := subC [1, 0, 1, 0] (bodyC Tryz.f118)
noncomputable def B118 : Code := subC [1, 0, 1, 0, 0] (bodyC Tryz.f118)
noncomputable def c54 : Code := subC [1, 0, 1, 0] (bodyC Tryz.f54)
noncomputable def B54 : Code := subC [1, 0, 1, 0, 0] (bodyC Tryz.f54)
noncomputable def c55 : Code := subC [1, 1, 0, 1, 0] (bodyC Tryz.f55)
noncomputable def B55 : Code := subC [1, 1, 0, 1, 0, 0] (bodyC Tryz.f55)
def elP : Nat → Option ((List V → Prop) → Prop) := fun t => cond (t.beq 38) (some fun K => ∃ q : Pt, K q.cs) none
def mk118 : List Bool := [true, false, true, true] ++ List.replicate 14 false
def mk118E : List Bool := [false, false, true, false] ++ List.replicate 14 false
def v118 (β cl : Bool) (l : List Pt) (i : Nat) : List V := [.imm β 2 cl (l.map Pt.cs), .bool false, .int .i64 i]
def v118E (b : Bool) : List V := [.bool false]
def no0 {α : Type} (_ : α) : List Ob := []
def T118 (β cl : Bool) (l : List Pt) : Code → St → (Rs → Prop) → Prop := fun c s Q => isC c c118 ∧ chkE mk118 0 s (∃ i, pick mk118 s.tm = v118 β cl l i ∧ obsF 0 0 s.h = (no0 i).map some ∧
  ((l.drop i).all Pt.valid = true → ∀ g, Q (.out (.exit 0) ((Fam.of mk118E v118E no0).st 0 true g))) ∧ ((l.drop i).all Pt.valid = false → ∀ g, Q (.out .ret ((Fam.of mk118E v118E no0).st 0 false g))))
def mk54 : List Bool := [true, false, false, true, true, true] ++ List.replicate 22 false
def mk54E : List Bool := [false, false, false, false, true, false] ++ List.replicate 22 false
def v54 (β cl : Bool) (l : List Pt) (i : Nat) : List V := [.imm β 2 cl (l.map Pt.cs), .ptr 0 0 0, .bool false, .int .i64 i]
def v54E (b : Bool) : List V := [.bool b]
def oP {α : Type} (p : Pt) (_ : α) : List Ob := [.cells [p.cs] 2]
def T54 (β cl : Bool) (l : List Pt) (p : Pt) : Code → St → (Rs → Prop) → Prop := fun c s Q => isC c c54 ∧ chkE mk54 1 s (∃ i, pick mk54 s.tm = v54 β cl l i ∧ obsF 1 0 s.h = (oP p i).map some ∧
  (((ptsE l).drop i).any (fun e => onB e.1 e.2 p) = false → ∀ g, Q (.out (.exit 0) ((Fam.of mk54E v54E (oP p)).st 1 false g))) ∧ (((ptsE l).drop i).any (fun e => onB e.1 e.2 p) = true → ∀ g, Q (.out .ret ((Fam.of mk54E v54E (oP p)).st 1 true g))))
def mk55 : List Bool := [true, false, false, true, false, true, true] ++ List.replicate 63 false
def mk55E : List Bool := [false, false, false, false, false, true, false] ++ List.replicate 63 false
def v55 (β cl : Bool) (l : List Pt) (x : Nat × Int) : List V := [.imm β 2 cl (l.map Pt.cs), .ptr 0 0 0, .int .i64 x.2, .int .i64 x.1]
def v55E (n : Int) : List V := [.int .i64 n]
def windG (l : List Pt) (p : Pt) (i : Nat) (n : Int) : Int := n + (((ptsE l).drop i).map fun e => windE e.1 e.2 p).sum
def T55 (β cl : Bool) (l : List Pt) (p : Pt) : Code → St → (Rs → Prop) → Prop := fun c s Q => isC c c55 ∧ chkE mk55 1 s (∃ x, pick mk55 s.tm = v55 β cl l x ∧ obsF 1 0 s.h = (oP p x).map some ∧ ∀ y g, (x.2.natAbs ≤ x.1 → y = windG l p x.1 x.2) → Q (.out (.exit 0) ((Fam.of mk55E v55E (oP p)).st 1 y g)))
def p119 : List V → Option V
  | [.agg [.int .i64 ax, .int .i64 ay], .agg [.int .i64 bx, .int .i64 bz], .agg [.int .i64 px, .int .i64 py]] => some (.bool (onB ⟨ax, ay⟩ ⟨bx, bz⟩ ⟨px, py⟩))
  | _ => none
def ptsOf : List (List V) → Option (List Pt)
  | [] => some []
  | [.int .i64 x, .int .i64 y] :: r => match ptsOf r with | some l => some (⟨x, y⟩ :: l) | none => none
  | _ => none
def qV (K0 : List Pt → V) : List V → Option ((V → Prop) → Prop)
  | [.imm β 2 cl es] => some fun K => ∃ l : List Pt, es = l.map Pt.cs ∧ l.length < 1000 ∧ K (K0 l)
  | _ => none
def qP (K0 : List Pt → Pt → V) : List V → Option ((V → Prop) → Prop)
  | [.imm β 2 cl es, .agg [.int .i64 px, .int .i64 py]] => some fun K => ∃ l : List Pt, es = l.map Pt.cs ∧ l.length < 1000 ∧ K (K0 l ⟨px, py⟩)
  | _ => none
def pointsE (l : List Pt) : Int := cond (decide (l.length < 3) || decide (l.length > 200)) 2 (cond (l.all Pt.valid) 0 1)
def windR (l : List Pt) (p : Pt) : Int × Int := cond (pointsE l == 0) (cond p.valid (cond (alongB l p) (0, 4) (windG l p 0 0, 0)) (0, 1)) (0, pointsE l)
theorem elP_ok : ∀ t T, elP t = some T → ∀ K, T K → ∃ cs, K cs := fun t T h K hK => by
  unfold elP at h
  cases hb : t.beq 38 with
  | false => rw [hb] at h; cases h
  | true => rw [hb] at h; cases h; obtain ⟨b, hb⟩ := hK; exact ⟨_, hb⟩
theorem enP_ok : EnOk cx0 (enOf elP tab11) := enOf_ok elP_ok tab11_ok
theorem t119 (ax ay bx bz px py : Int) : Pev cx0 119 [.agg [.int .i64 ax, .int .i64 ay], .agg [.int .i64 bx, .int .i64 bz], .agg [.int .i64 px, .int .i64 py]] (.bool (onB ⟨ax, ay⟩ ⟨bx, bz⟩ ⟨px, py⟩)) := by
  have F : ∀ QR : Rs → Prop, vc cx0 (enOf elP tab11) 60 (.pcall 119 [.agg [.int .i64 ax, .int .i64 ay], .agg [.int .i64 bx, .int .i64 bz], .agg [.int .i64 px, .int .i64 py]]) QR = (brW (inB px (mn ax bx) (mx ax bx) && inB py (mn ay bz) (mx ay bz)) (QR (Rs.val (V.bool (tw (Pt.mk ax ay) (Pt.mk bx bz) (Pt.mk px py) == 0)) Hp.empty)) (QR (Rs.val (V.bool false) Hp.empty))) := fun QR => by kernel_rfl
  refine vcP enP_ok 60 ?_
  rw [F]
  unfold onB
  refine brI (fun h => ?_) (fun h => ?_)
  · simp only [h, Bool.true_and]
  · simp only [h, Bool.false_and]
theorem r119 : ∀ args v, p119 args = some v → Pev cx0 119 args v := by
  intro args v h
  unfold p119 at h
  split at h
  · cases h; apply t119
  · cases h
def tabR : Tr Tq := tab11.set 119 (lift p119)
theorem tabR_ok : TabOk cx0 tabR := tab11_ok.set (lift_ok r119)
theorem enR_ok : EnOk cx0 (enOf elP tabR) := enOf_ok elP_ok tabR_ok
theorem map_at {l : List Pt} {i : Nat} (h : i < l.length) : (l.map Pt.cs)[i]? = some (l[i]).cs := by rw [List.getElem?_map, List.getElem?_eq_getElem h]; rfl
theorem ptsE_len (l : List Pt) : (ptsE l).length = l.length := by
  simp only [ptsE, List.length_zip, List.length_append, List.length_tail, List.length_take]
  omega
theorem ptsE_at {l : List Pt} {i : Nat} (h : i < l.length) : (ptsE l)[i]'(by rw [ptsE_len]; exact h) = (l[i], l[(i + 1) % l.length]'(Nat.mod_lt _ (by omega))) := by
  simp only [ptsE, List.getElem_zip, Prod.mk.injEq, true_and]
  by_cases h1 : i + 1 < l.length
  · rw [List.getElem_append_left (by rw [List.length_tail]; omega)]
    simp only [List.getElem_tail, Nat.mod_eq_of_lt h1]
  · have : i + 1 = l.length := by omega
    rw [List.getElem_append_right (by rw [List.length_tail]; omega)]
    simp only [List.getElem_take, List.length_tail]
    congr 1
    rw [this, Nat.mod_self]
    omega
theorem tmod_at {i n : Nat} (h : 0 < n) (hb : i < 1000) : Int.tmod (w64 ((i : Int) + 1)) (n : Int) = (((i + 1) % n : Nat) : Int) := by
  rw [w64_id (by omega) (by omega), show ((i : Int) + 1) = ((i + 1 : Nat) : Int) by omega]
  rfl
theorem ok118 (β cl : Bool) (l : List Pt) : OfOk mk118 (v118 β cl l) no0 0 := ⟨fun _ => rfl, fun _ => rfl, fun _ o h => by cases h⟩
theorem ok118E : OfOk mk118E v118E no0 0 := ⟨fun _ => rfl, fun _ => rfl, fun _ o h => by cases h⟩
theorem loop118 (β cl : Bool) (l : List Pt) (hl : l.length < 1000) (i : Nat) (g : Nat → V) : ∃ y g', y = (l.drop i).all Pt.valid ∧ Evs cx0 (.code (.loop B118) ((Fam.of mk118 (v118 β cl l) no0).st 0 i g)) (.out (cond y (.exit 0) .ret) ((Fam.of mk118E v118E no0).st 0 y g')) := by
  refine loop_of (N := 60) enR_ok (fun y : Bool => cond y (.exit 0) .ret) (fun i => l.length - i) (fun i y => y = (l.drop i).all Pt.valid) (ok118 β cl l) ok118E (fun y => by cases y <;> simp) (fun i g XX QQ hX hQ => ?_) i g
  have F : vc cx0 (enOf elP tabR) 60 (.code B118 ((Fam.of mk118 (v118 β cl l) no0).st 0 i g)) (onLoopK mk118 mk118E 0 XX QQ) = (brW (decide ((↑i : Int) < (↑(List.length (List.map Pt.cs l)) : Int))) (need (leB 0 (↑i : Int)) (∃ q, (List.map Pt.cs l)[Int.toNat (↑i : Int)]? = some (Pt.cs q) ∧ brW (!Pt.valid q) (QQ Out.ret [V.bool false] []) (XX [V.imm β 2 cl (List.map Pt.cs l), V.bool false, V.int .i64 (w64 ((↑i : Int) + 1))] []))) (QQ (Out.exit 0) [V.bool false] [])) := by kernel_rfl
  rw [F]
  clear F
  refine brI (fun h => ?_) (fun h => ?_)
  · have hi : i < l.length := by simpa using h
    have hd : l.drop i = l[i] :: l.drop (i + 1) := List.drop_eq_getElem_cons hi
    have hw : w64 ((i : Int) + 1) = ((i + 1 : Nat) : Int) := w64_id (by omega) (by omega)
    refine needI (by simp [leB]) ⟨l[i], by simpa using map_at hi, ?_⟩
    refine brN (fun hv => ?_) (fun hv => ?_)
    · exact hQ false (by rw [hd, List.all_cons, hv, Bool.false_and])
    · rw [hw]
      exact hX (i + 1) (by omega) (fun y hy => by rw [hy, hd, List.all_cons, hv, Bool.true_and])
  · have hi : ¬ i < l.length := by simpa using h
    exact hQ true (by rw [List.drop_eq_nil_of_le (by omega)]; rfl)
theorem T118_ok (β cl : Bool) (l : List Pt) (hl : l.length < 1000) : ∀ c s Q, T118 β cl l c s Q → ∃ r, Evs cx0 (.code c s) r ∧ Q r := by
  rintro c s Q ⟨hc, hk⟩
  obtain ⟨hk, i, hv, ho, h1, h2⟩ := need_iff.1 hk
  obtain ⟨hs, hM⟩ := (ok118 β cl l).enter hk hv ho
  have hc : c = .loop B118 := hc.trans (by kernel_rfl)
  subst hc
  refine kept_from (out := fun y : Bool => cond y (.exit 0) .ret) (R := fun i y => y = (l.drop i).all Pt.valid) (ok118 β cl l).fam ok118E.fam ok118E.nl (fun x g => loop118 β cl l hl x g) hs hM fun y g hy => ?_
  cases y with
  | true => exact h1 hy.symm g
  | false => exact h2 hy.symm g
theorem okP (mask : List Bool) {α : Type} (vals : α → List V) (p : Pt) (h : ∀ x, V.lows 1 (vals x) = true) : OfOk mask vals (oP p) 1 := ⟨fun _ => rfl, h, fun _ o h => by
  simp only [oP, List.mem_singleton] at h
  subst h
  exact ⟨rfl, fun r hr => by simp only [List.mem_singleton] at hr; subst hr; rfl, rfl⟩⟩
theorem loop54 (β cl : Bool) (l : List Pt) (p : Pt) (hl : l.length < 1000) (i : Nat) (g : Nat → V) : ∃ y g', y = ((ptsE l).drop i).any (fun e => onB e.1 e.2 p) ∧ Evs cx0 (.code (.loop B54) ((Fam.of mk54 (v54 β cl l) (oP p)).st 1 i g)) (.out (cond y .ret (.exit 0)) ((Fam.of mk54E v54E (oP p)).st 1 y g')) := by
  refine loop_of (N := 60) enR_ok (fun y : Bool => cond y .ret (.exit 0)) (fun i => l.length - i) (fun i y => y = ((ptsE l).drop i).any (fun e => onB e.1 e.2 p)) (okP mk54 (v54 β cl l) p fun _ => rfl) (okP mk54E v54E p fun _ => rfl) (fun y => by cases y <;> simp) (fun i g XX QQ hX hQ => ?_) i g
  have F : vc cx0 (enOf elP tabR) 60 (.code B54 ((Fam.of mk54 (v54 β cl l) (oP p)).st 1 i g)) (onLoopK mk54 mk54E 1 XX QQ) = (brW (decide ((↑i : Int) < (↑(List.length (List.map Pt.cs l)) : Int))) (need (leB 0 (↑i : Int)) (∃ q, (List.map Pt.cs l)[Int.toNat (↑i : Int)]? = some (Pt.cs q) ∧ need (!decide ((↑(List.length (List.map Pt.cs l)) : Int) = 0)) (need (leB 0 (Int.tmod (w64 ((↑i : Int) + 1)) (↑(List.length (List.map Pt.cs l)) : Int))) (∃ q_1, (List.map Pt.cs l)[Int.toNat (Int.tmod (w64 ((↑i : Int) + 1)) (↑(List.length (List.map Pt.cs l)) : Int))]? = some (Pt.cs q_1) ∧ brW (onB q q_1 p) (QQ Out.ret [V.bool true] [some (Ob.cells [[V.int .i64 (Pt.x p), V.int .i64 (Pt.y p)]] 2)]) (XX [V.imm β 2 cl (List.map Pt.cs l), V.ptr 0 0 0, V.bool false, V.int .i64 (w64 ((↑i : Int) + 1))] [some (Ob.cells [[V.int .i64 (Pt.x p), V.int .i64 (Pt.y p)]] 2)]))))) (QQ (Out.exit 0) [V.bool false] [some (Ob.cells [[V.int .i64 (Pt.x p), V.int .i64 (Pt.y p)]] 2)])) := by kernel_rfl
  rw [F]
  clear F
  refine brI (fun h => ?_) (fun h => ?_)
  · have hi : i < l.length := by simpa using h
    have hd : (ptsE l).drop i = (l[i], l[(i + 1) % l.length]'(Nat.mod_lt _ (by omega))) :: (ptsE l).drop (i + 1) := by
      rw [List.drop_eq_getElem_cons (by rw [ptsE_len]; exact hi), ptsE_at hi]
    have hw : w64 ((i : Int) + 1) = ((i + 1 : Nat) : Int) := w64_id (by omega) (by omega)
    have ht := tmod_at (i := i) (n := l.length) (by omega) (by omega)
    simp only [List.length_map]
    refine needI (by simp [leB]) ⟨l[i], by simpa using map_at hi, ?_⟩
    refine needI (by rw [decide_eq_false (by omega)]; rfl) (needI (by rw [ht]; simp only [leB, decide_eq_true_eq]; omega) ⟨l[(i + 1) % l.length]'(Nat.mod_lt _ (by omega)), by rw [ht, Int.toNat_natCast]; exact map_at _, ?_⟩)
    refine brI (fun hv => ?_) (fun hv => ?_)
    · exact hQ true (by rw [hd, List.any_cons]; simp only [hv, Bool.true_or])
    · rw [hw]
      exact hX (i + 1) (by omega) (fun y hy => by rw [hy, hd, List.any_cons]; simp only [hv, Bool.false_or])
  · have hi : ¬ i < l.length := by simpa using h
    exact hQ false (by rw [List.drop_eq_nil_of_le (by rw [ptsE_len]; omega)]; rfl)
theorem T54_ok (β cl : Bool) (l : List Pt) (p : Pt) (hl : l.length < 1000) : ∀ c s Q, T54 β cl l p c s Q → ∃ r, Evs cx0 (.code c s) r ∧ Q r := by
  rintro c s Q ⟨hc, hk⟩
  obtain ⟨hk, i, hv, ho, h1, h2⟩ := need_iff.1 hk
  obtain ⟨hs, hM⟩ := (okP mk54 (v54 β cl l) p fun _ => rfl).enter hk hv ho
  have hc : c = .loop B54 := hc.trans (by kernel_rfl)
  subst hc
  refine kept_from (out := fun y : Bool => cond y .ret (.exit 0)) (R := fun i y => y = ((ptsE l).drop i).any (fun e => onB e.1 e.2 p)) (okP mk54 (v54 β cl l) p fun _ => rfl).fam (okP mk54E v54E p fun _ => rfl).fam (okP mk54E v54E p fun _ => rfl).nl (fun x g => loop54 β cl l p hl x g) hs hM fun y g hy => ?_
  cases y with
  | false => exact h1 hy.symm g
  | true => exact h2 hy.symm g
theorem loop55 (β cl : Bool) (l : List Pt) (p : Pt) (hl : l.length < 1000) (x : Nat × Int) (g : Nat → V) : ∃ y g', (x.2.natAbs ≤ x.1 → y = windG l p x.1 x.2) ∧ Evs cx0 (.code (.loop B55) ((Fam.of mk55 (v55 β cl l) (oP p)).st 1 x g)) (.out (.exit 0) ((Fam.of mk55E v55E (oP p)).st 1 y g')) := by
  refine loop_of (N := 60) enR_ok (fun _ => .exit 0) (fun x => l.length - x.1) (fun x y => (x.2.natAbs ≤ x.1 → y = windG l p x.1 x.2)) (okP mk55 (v55 β cl l) p fun _ => rfl) (okP mk55E v55E p fun _ => rfl) (fun y => by simp) (fun x g XX QQ hX hQ => ?_) x g
  have F : vc cx0 (enOf elP tabR) 60 (.code B55 ((Fam.of mk55 (v55 β cl l) (oP p)).st 1 x g)) (onLoopK mk55 mk55E 1 XX QQ) = (brW (decide ((↑(Prod.fst x) : Int) < (↑(List.length (List.map Pt.cs l)) : Int))) (need (leB 0 (↑(Prod.fst x) : Int)) (∃ q, (List.map Pt.cs l)[Int.toNat (↑(Prod.fst x) : Int)]? = some (Pt.cs q) ∧ need (!decide ((↑(List.length (List.map Pt.cs l)) : Int) = 0)) (need (leB 0 (Int.tmod (w64 ((↑(Prod.fst x) : Int) + 1)) (↑(List.length (List.map Pt.cs l)) : Int))) (∃ q_1, (List.map Pt.cs l)[Int.toNat (Int.tmod (w64 ((↑(Prod.fst x) : Int) + 1)) (↑(List.length (List.map Pt.cs l)) : Int))]? = some (Pt.cs q_1) ∧ brW (decide (Pt.y q ≤ Pt.y p)) (brW (decide (Pt.y q_1 > Pt.y p)) (brW (decide (tw q q_1 p > 0)) (brW (decide (Pt.y q > Pt.y p)) (brW (decide (Pt.y q_1 ≤ Pt.y p)) (brW (decide (tw q q_1 p < 0)) (XX [V.imm β 2 cl (List.map Pt.cs l), V.ptr 0 0 0, V.int .i64 (w64 (w64 (Prod.snd x + 1) - 1)), V.int .i64 (w64 ((↑(Prod.fst x) : Int) + 1))] [some (Ob.cells [[V.int .i64 (Pt.x p), V.int .i64 (Pt.y p)]] 2)]) (XX [V.imm β 2 cl (List.map Pt.cs l), V.ptr 0 0 0, V.int .i64 (w64 (Prod.snd x + 1)), V.int .i64 (w64 ((↑(Prod.fst x) : Int) + 1))] [some (Ob.cells [[V.int .i64 (Pt.x p), V.int .i64 (Pt.y p)]] 2)])) (XX [V.imm β 2 cl (List.map Pt.cs l), V.ptr 0 0 0, V.int .i64 (w64 (Prod.snd x + 1)), V.int .i64 (w64 ((↑(Prod.fst x) : Int) + 1))] [some (Ob.cells [[V.int .i64 (Pt.x p), V.int .i64 (Pt.y p)]] 2)])) (XX [V.imm β 2 cl (List.map Pt.cs l), V.ptr 0 0 0, V.int .i64 (w64 (Prod.snd x + 1)), V.int .i64 (w64 ((↑(Prod.fst x) : Int) + 1))] [some (Ob.cells [[V.int .i64 (Pt.x p), V.int .i64 (Pt.y p)]] 2)])) (brW (decide (Pt.y q > Pt.y p)) (brW (decide (Pt.y q_1 ≤ Pt.y p)) (brW (decide (tw q q_1 p < 0)) (XX [V.imm β 2 cl (List.map Pt.cs l), V.ptr 0 0 0, V.int .i64 (w64 (Prod.snd x - 1)), V.int .i64 (w64 ((↑(Prod.fst x) : Int) + 1))] [some (Ob.cells [[V.int .i64 (Pt.x p), V.int .i64 (Pt.y p)]] 2)]) (XX [V.imm β 2 cl (List.map Pt.cs l), V.ptr 0 0 0, V.int .i64 (Prod.snd x), V.int .i64 (w64 ((↑(Prod.fst x) : Int) + 1))] [some (Ob.cells [[V.int .i64 (Pt.x p), V.int .i64 (Pt.y p)]] 2)])) (XX [V.imm β 2 cl (List.map Pt.cs l), V.ptr 0 0 0, V.int .i64 (Prod.snd x), V.int .i64 (w64 ((↑(Prod.fst x) : Int) + 1))] [some (Ob.cells [[V.int .i64 (Pt.x p), V.int .i64 (Pt.y p)]] 2)])) (XX [V.imm β 2 cl (List.map Pt.cs l), V.ptr 0 0 0, V.int .i64 (Prod.snd x), V.int .i64 (w64 ((↑(Prod.fst x) : Int) + 1))] [some (Ob.cells [[V.int .i64 (Pt.x p), V.int .i64 (Pt.y p)]] 2)]))) (brW (decide (Pt.y q > Pt.y p)) (brW (decide (Pt.y q_1 ≤ Pt.y p)) (brW (decide (tw q q_1 p < 0)) (XX [V.imm β 2 cl (List.map Pt.cs l), V.ptr 0 0 0, V.int .i64 (w64 (Prod.snd x - 1)), V.int .i64 (w64 ((↑(Prod.fst x) : Int) + 1))] [some (Ob.cells [[V.int .i64 (Pt.x p), V.int .i64 (Pt.y p)]] 2)]) (XX [V.imm β 2 cl (List.map Pt.cs l), V.ptr 0 0 0, V.int .i64 (Prod.snd x), V.int .i64 (w64 ((↑(Prod.fst x) : Int) + 1))] [some (Ob.cells [[V.int .i64 (Pt.x p), V.int .i64 (Pt.y p)]] 2)])) (XX [V.imm β 2 cl (List.map Pt.cs l), V.ptr 0 0 0, V.int .i64 (Prod.snd x), V.int .i64 (w64 ((↑(Prod.fst x) : Int) + 1))] [some (Ob.cells [[V.int .i64 (Pt.x p), V.int .i64 (Pt.y p)]] 2)])) (XX [V.imm β 2 cl (List.map Pt.cs l), V.ptr 0 0 0, V.int .i64 (Prod.snd x), V.int .i64 (w64 ((↑(Prod.fst x) : Int) + 1))] [some (Ob.cells [[V.int .i64 (Pt.x p), V.int .i64 (Pt.y p)]] 2)]))) (brW (decide (Pt.y q > Pt.y p)) (brW (decide (Pt.y q_1 ≤ Pt.y p)) (brW (decide (tw q q_1 p < 0)) (XX [V.imm β 2 cl (List.map Pt.cs l), V.ptr 0 0 0, V.int .i64 (w64 (Prod.snd x - 1)), V.int .i64 (w64 ((↑(Prod.fst x) : Int) + 1))] [some (Ob.cells [[V.int .i64 (Pt.x p), V.int .i64 (Pt.y p)]] 2)]) (XX [V.imm β 2 cl (List.map Pt.cs l), V.ptr 0 0 0, V.int .i64 (Prod.snd x), V.int .i64 (w64 ((↑(Prod.fst x) : Int) + 1))] [some (Ob.cells [[V.int .i64 (Pt.x p), V.int .i64 (Pt.y p)]] 2)])) (XX [V.imm β 2 cl (List.map Pt.cs l), V.ptr 0 0 0, V.int .i64 (Prod.snd x), V.int .i64 (w64 ((↑(Prod.fst x) : Int) + 1))] [some (Ob.cells [[V.int .i64 (Pt.x p), V.int .i64 (Pt.y p)]] 2)])) (XX [V.imm β 2 cl (List.map Pt.cs l), V.ptr 0 0 0, V.int .i64 (Prod.snd x), V.int .i64 (w64 ((↑(Prod.fst x) : Int) + 1))] [some (Ob.cells [[V.int .i64 (Pt.x p), V.int .i64 (Pt.y p)]] 2)])))))) (QQ (Out.exit 0) [V.int .i64 (Prod.snd x)] [some (Ob.cells [[V.int .i64 (Pt.x p), V.int .i64 (Pt.y p)]] 2)])) := by kernel_rfl
  rw [F]
  clear F
  obtain ⟨i, n⟩ := x
  simp only [] at hX hQ ⊢
  refine brI (fun h => ?_) (fun h => ?_)
  · have hi : i < l.length := by simpa using h
    have hd : (ptsE l).drop i = (l[i], l[(i + 1) % l.length]'(Nat.mod_lt _ (by omega))) :: (ptsE l).drop (i + 1) := by
      rw [List.drop_eq_getElem_cons (by rw [ptsE_len]; exact hi), ptsE_at hi]
    have hw : w64 ((i : Int) + 1) = ((i + 1 : Nat) : Int) := w64_id (by omega) (by omega)
    have ht := tmod_at (i := i) (n := l.length) (by omega) (by omega)
    simp only [List.length_map]
    refine needI (by simp [leB]) ⟨l[i], by simpa using map_at hi, ?_⟩
    refine needI (by rw [decide_eq_false (by omega)]; rfl) (needI (by rw [ht]; simp only [leB, decide_eq_true_eq]; omega) ⟨l[(i + 1) % l.length]'(Nat.mod_lt _ (by omega)), by rw [ht, Int.toNat_natCast]; exact map_at _, ?_⟩)
    generalize l[i] = q at hd ⊢
    generalize l[(i + 1) % l.length]'_ = q1 at hd ⊢
    have K : ∀ n', (n.natAbs ≤ i → n' = n + windE q q1 p) → XX [V.imm β 2 cl (List.map Pt.cs l), V.ptr 0 0 0, V.int .i64 n', V.int .i64 (w64 ((i : Int) + 1))] [some (Ob.cells [[V.int .i64 p.x, V.int .i64 p.y]] 2)] := fun n' hn => by
      rw [hw]
      refine hX (i + 1, n') (by simp only; omega) (fun y hy hb => ?_)
      have hn := hn hb
      have := windE_bd q q1 p
      rw [hy (by simp only at hb ⊢; omega)]
      simp only [windG, hd, List.map_cons, List.sum_cons]
      omega
    repeat' (first | refine brI (fun h => ?_) (fun h => ?_))
    all_goals refine K _ (fun hb => ?_)
    all_goals (simp only [windE, *, Bool.and_true, Bool.and_false, Bool.true_and, Bool.false_and, cond_true, cond_false])
    all_goals (have e1 := w64_id (n := n + 1) (by omega) (by omega); have e2 := w64_id (n := n - 1) (by omega) (by omega); simp only [decide_eq_true_eq, decide_eq_false_iff_not] at *; omega)
  · have hi : ¬ i < l.length := by simpa using h
    exact hQ n (fun _ => by simp only [windG]; rw [List.drop_eq_nil_of_le (by rw [ptsE_len]; omega)]; simp)
theorem T55_ok (β cl : Bool) (l : List Pt) (p : Pt) (hl : l.length < 1000) : ∀ c s Q, T55 β cl l p c s Q → ∃ r, Evs cx0 (.code c s) r ∧ Q r := by
  rintro c s Q ⟨hc, hk⟩
  obtain ⟨hk, x, hv, ho, h1⟩ := need_iff.1 hk
  obtain ⟨hs, hM⟩ := (okP mk55 (v55 β cl l) p fun _ => rfl).enter hk hv ho
  have hc : c = .loop B55 := hc.trans (by kernel_rfl)
  subst hc
  exact kept_from (out := fun _ => .exit 0) (okP mk55 (v55 β cl l) p fun _ => rfl).fam (okP mk55E v55E p fun _ => rfl).fam (okP mk55E v55E p fun _ => rfl).nl (fun x g => loop55 β cl l p hl x g) hs hM fun y g hy => h1 y g hy
theorem t118 (β cl : Bool) (l : List Pt) (p : Pt) (hl : l.length < 1000) : Pev cx0 118 [.imm β 2 cl (l.map Pt.cs)] (.bool (l.all Pt.valid)) := by
  have F : ∀ QR : Rs → Prop, vc cx0 (enL elP tab11 (lp1 0 (T118 β cl l))) 60 (.pcall 118 [.imm β 2 cl (l.map Pt.cs)]) QR = (isC c118 c118 ∧ ∃ i : Nat, [V.imm β 2 cl (List.map Pt.cs l), V.bool false, V.int .i64 0] = [V.imm β 2 cl (List.map Pt.cs l), V.bool false, V.int .i64 (↑i : Int)] ∧ ([] : List (Option Ob)) = [] ∧ (List.all (List.drop i l) Pt.valid = true → ∀ (g : Nat → V), QR (Rs.val (V.bool true) Hp.empty)) ∧ (List.all (List.drop i l) Pt.valid = false → ∀ (g : Nat → V), QR (Rs.val (V.bool false) Hp.empty))) := fun QR => by kernel_rfl
  refine vcP (Go.Ev.enL_ok enP_ok (lp1_ok (k := 0) (T118_ok β cl l hl))) 60 ?_
  rw [F]
  clear F
  refine ⟨rfl, 0, rfl, rfl, fun h g => ?_, fun h g => ?_⟩ <;> rw [List.drop_zero] at h <;> rw [h]
theorem t54 (β cl : Bool) (l : List Pt) (p : Pt) (hl : l.length < 1000) : Pev cx0 54 [.imm β 2 cl (l.map Pt.cs), .agg p.cs] (.bool (alongB l p)) := by
  have F : ∀ QR : Rs → Prop, vc cx0 (enL elP tab11 (lp1 0 (T54 β cl l p))) 60 (.pcall 54 [.imm β 2 cl (l.map Pt.cs), .agg p.cs]) QR = (isC c54 c54 ∧ ∃ i : Nat, [V.imm β 2 cl (List.map Pt.cs l), V.ptr 0 0 0, V.bool false, V.int .i64 0] = [V.imm β 2 cl (List.map Pt.cs l), V.ptr 0 0 0, V.bool false, V.int .i64 (↑i : Int)] ∧ [some (Ob.cells [[V.int .i64 (Pt.x p), V.int .i64 (Pt.y p)]] 2)] = [some (Ob.cells [[V.int .i64 (Pt.x p), V.int .i64 (Pt.y p)]] 2)] ∧ ((List.any (List.drop i (ptsE l)) fun e => onB (Prod.fst e) (Prod.snd e) p) = false → ∀ (g : Nat → V), QR (Rs.val (V.bool false) Hp.empty)) ∧ ((List.any (List.drop i (ptsE l)) fun e => onB (Prod.fst e) (Prod.snd e) p) = true → ∀ (g : Nat → V), QR (Rs.val (V.bool true) Hp.empty))) := fun QR => by kernel_rfl
  refine vcP (Go.Ev.enL_ok enP_ok (lp1_ok (k := 0) (T54_ok β cl l p hl))) 60 ?_
  rw [F]
  clear F
  refine ⟨rfl, 0, rfl, rfl, fun h g => ?_, fun h g => ?_⟩ <;> rw [List.drop_zero] at h <;> unfold alongB <;> rw [h]
theorem t55 (β cl : Bool) (l : List Pt) (p : Pt) (hl : l.length < 1000) : Pev cx0 55 [.imm β 2 cl (l.map Pt.cs), .agg p.cs] (.int .i64 (windG l p 0 0)) := by
  have F : ∀ QR : Rs → Prop, vc cx0 (enL elP tab11 (lp1 0 (T55 β cl l p))) 60 (.pcall 55 [.imm β 2 cl (l.map Pt.cs), .agg p.cs]) QR = (isC c55 c55 ∧ ∃ x : Nat × Int, [V.imm β 2 cl (List.map Pt.cs l), V.ptr 0 0 0, V.int .i64 0, V.int .i64 0] = [V.imm β 2 cl (List.map Pt.cs l), V.ptr 0 0 0, V.int .i64 (Prod.snd x), V.int .i64 (↑(Prod.fst x) : Int)] ∧ [some (Ob.cells [[V.int .i64 (Pt.x p), V.int .i64 (Pt.y p)]] 2)] = [some (Ob.cells [[V.int .i64 (Pt.x p), V.int .i64 (Pt.y p)]] 2)] ∧ ∀ (y : Int) (g : Nat → V), (Int.natAbs (Prod.snd x) ≤ Prod.fst x → y = windG l p (Prod.fst x) (Prod.snd x)) → QR (Rs.val (V.int .i64 y) Hp.empty)) := fun QR => by kernel_rfl
  refine vcP (Go.Ev.enL_ok enP_ok (lp1_ok (k := 0) (T55_ok β cl l p hl))) 60 ?_
  rw [F]
  clear F
  refine ⟨rfl, (0, 0), rfl, rfl, fun y g h => ?_⟩
  rw [h (by simp)]
theorem qV_ok {f : Nat} {K0 : List Pt → V} (h : ∀ (β cl : Bool) (l : List Pt), l.length < 1000 → Pev cx0 f [.imm β 2 cl (l.map Pt.cs)] (K0 l)) : TqOk cx0 f (qV K0) := by
  intro args T hT K hK
  unfold qV at hT
  split at hT
  · cases hT
    obtain ⟨l, rfl, hl, hK⟩ := hK
    exact ⟨_, h _ _ l hl, hK⟩
  · cases hT
theorem qP_ok {f : Nat} {K0 : List Pt → Pt → V} (h : ∀ (β cl : Bool) (l : List Pt) (p : Pt), l.length < 1000 → Pev cx0 f [.imm β 2 cl (l.map Pt.cs), .agg p.cs] (K0 l p)) : TqOk cx0 f (qP K0) := by
  intro args T hT K hK
  unfold qP at hT
  split at hT
  · rename_i px py
    cases hT
    obtain ⟨l, rfl, hl, hK⟩ := hK
    exact ⟨_, h _ _ l ⟨px, py⟩ hl, hK⟩
  · cases hT
def tabS : Tr Tq := ((tab11.set 118 (qV fun l => .bool (l.all Pt.valid))).set 54 (qP fun l p => .bool (alongB l p))).set 55 (qP fun l p => .int .i64 (windG l p 0 0))
theorem tabS_ok : TabOk cx0 tabS := ((tab11_ok.set (qV_ok fun β cl l hl => t118 β cl l ⟨0, 0⟩ hl)).set (qP_ok t54)).set (qP_ok t55)
theorem enS_ok : EnOk cx0 (enOf elP tabS) := enOf_ok elP_ok tabS_ok
theorem t21 (β cl : Bool) (l : List Pt) (p : Pt) (hl : l.length < 1000) : Pev cx0 21 [.imm β 2 cl (l.map Pt.cs), .agg p.cs] (.tup [.int .i64 (windR l p).1, .int .i64 (windR l p).2]) := by
  have F : ∀ QR : Rs → Prop, vc cx0 (enOf elP tabS) 60 (.pcall 21 [.imm β 2 cl (l.map Pt.cs), .agg p.cs]) QR = (brW (decide ((↑(List.length (List.map Pt.cs l)) : Int) < 3)) (QR (Rs.val (V.tup [V.int .i64 0, V.int .i64 2]) Hp.empty)) (brW (decide ((↑(List.length (List.map Pt.cs l)) : Int) > 200)) (QR (Rs.val (V.tup [V.int .i64 0, V.int .i64 2]) Hp.empty)) (∃ l_1, List.map Pt.cs l = List.map Pt.cs l_1 ∧ Nat.le (Nat.succ (List.length l_1)) 1000 ∧ brW (!List.all l_1 Pt.valid) (QR (Rs.val (V.tup [V.int .i64 0, V.int .i64 1]) Hp.empty)) (brW (!Pt.valid p) (QR (Rs.val (V.tup [V.int .i64 0, V.int .i64 1]) Hp.empty)) (∃ l_2, List.map Pt.cs l = List.map Pt.cs l_2 ∧ Nat.le (Nat.succ (List.length l_2)) 1000 ∧ brW (alongB l_2 p) (QR (Rs.val (V.tup [V.int .i64 0, V.int .i64 4]) Hp.empty)) (∃ l_3, List.map Pt.cs l = List.map Pt.cs l_3 ∧ Nat.le (Nat.succ (List.length l_3)) 1000 ∧ QR (Rs.val (V.tup [V.int .i64 (windG l_3 p 0 0), V.int .i64 0]) Hp.empty))))))) := fun QR => by kernel_rfl
  refine vcP enS_ok 60 ?_
  rw [F]
  clear F
  refine brI (fun h => ?_) (fun h => ?_)
  · have h : l.length < 3 := by simp at h; omega
    simp [windR, pointsE, h]
  · have h : ¬ l.length < 3 := by simp at h; omega
    refine brI (fun h2 => ?_) (fun h2 => ?_)
    · have h2 : l.length > 200 := by simp at h2; omega
      simp [windR, pointsE, h2]
    · have h2 : ¬ l.length > 200 := by simp at h2; omega
      refine ⟨l, rfl, hl, brN (fun h3 => ?_) (fun h3 => brN (fun h4 => ?_) (fun h4 => ⟨l, rfl, hl, brI (fun h5 => ?_) (fun h5 => ⟨l, rfl, hl, ?_⟩)⟩))⟩
      · simp only [windR, pointsE, h, h2, h3, decide_false, Bool.or_self, cond_false]; rfl
      · simp only [windR, pointsE, h, h2, h3, h4, decide_false, Bool.or_self, cond_false, cond_true]; rfl
      · simp only [windR, pointsE, h, h2, h3, h4, h5, decide_false, Bool.or_self, cond_false, cond_true]; rfl
      · simp only [windR, pointsE, h, h2, h3, h4, h5, decide_false, Bool.or_self, cond_false, cond_true]; rfl
end Go.Lf
end
