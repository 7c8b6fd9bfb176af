/- By an AI agent. What is proved here: the law of rounds answers true for every list of boxes that it can be handed. -/
import Derived.Test.YtegoogghlakghaaGreatHd
import Derived.Test.YtegoogghlakghaaGreatRd
section
set_option linter.unusedVariables false
set_option linter.unusedSimpArgs false
set_option maxRecDepth 100000
namespace Go.Lf
open Go Go.Ev Go.Sp Go.Proofs Go.Proofs.YtegoogghlakghaaGreat
def q7T : List V → Option ((V → Prop) → Prop)
  | [] => some fun K => K (.bool true)
  | _ => none
def q11T : List V → Option ((V → Prop) → Prop)
  | [.imm β 4 cl es, .agg [.int .i64 px, .int .i64 py]] => some fun K => ∃ l : List Box, es = l.map Box.cs ∧ l.length ≤ 20 ∧ K (.tup [.int .i64 (ringN l ⟨px, py⟩), .bool (ringC l ⟨px, py⟩)])
  | [.snil, .agg [.int .i64 px, .int .i64 py]] => some fun K => K (.tup [.int .i64 0, .bool false])
  | _ => none
def tabW : Tr (List V → Option ((V → Prop) → Prop)) := (.node (.node (.node (.node .nil (some q7T) .nil) none (.node .nil (some q11T) .nil)) none .nil) none (.node (.node .nil none (.node .nil (some q11T) .nil)) none .nil))
theorem nil11 (p : Pt) : Pev cx0 11 [.snil, .agg p.cs] (.tup [.int .i64 0, .bool false]) := by
  have F : ∀ Q : Rs → Prop, vc cx0 (enOf elN tab11) 100 (.pcall 11 [.snil, .agg p.cs]) Q = (Q (Rs.val (V.tup [V.int IntKind.i64 0, V.bool false]) Hp.empty)) := fun Q => by kernel_rfl
  refine vcP enN_ok 100 ?_
  rw [F]
theorem nil12 (p : Pt) : Pev cx0 12 [.snil, .agg p.cs] (.tup [.int .i64 0, .bool false]) := by
  have F : ∀ Q : Rs → Prop, vc cx0 (enOf elN tab11) 100 (.pcall 12 [.snil, .agg p.cs]) Q = (brW (!Pt.valid p) (Q (Rs.val (V.tup [V.int IntKind.i64 0, V.bool false]) Hp.empty)) (Q (Rs.val (V.tup [V.int IntKind.i64 0, V.bool false]) Hp.empty))) := fun Q => by kernel_rfl
  refine vcP enN_ok 100 ?_
  rw [F]
  exact brI (fun _ => rfl) (fun _ => rfl)
theorem rdq (f : Nat) (h : ∀ (β cl : Bool) (p : Pt) (l : List Box), l.length ≤ 20 → Pev cx0 f [.imm β 4 cl (l.map Box.cs), .agg p.cs] (.tup [.int .i64 (ringN l p), .bool (ringC l p)])) (h2 : ∀ p : Pt, Pev cx0 f [.snil, .agg p.cs] (.tup [.int .i64 0, .bool false])) : TqOk cx0 f q11T := by
  intro args T hT K hK
  unfold q11T at hT
  split at hT
  · rename_i β cl es px py
    cases hT
    obtain ⟨l, rfl, hl, hK⟩ := hK
    exact ⟨_, h β cl ⟨px, py⟩ l hl, hK⟩
  · rename_i px py
    cases hT
    exact ⟨_, h2 ⟨px, py⟩, hK⟩
  · cases hT
theorem head_true : Pev cx0 7 [] (.bool true) := h38
theorem tabW_ok : TabOk cx0 tabW := by
  have e : tabW = [(7, q7T), (11, q11T), (12, q11T)].foldl (fun t x => t.set x.1 x.2) .nil := by kernel_rfl
  rw [e]
  refine TabOk.all fun x hx => ?_
  simp only [List.mem_cons, List.not_mem_nil, or_false] at hx
  rcases hx with rfl | rfl | rfl
  · intro args T hT K hK
    change q7T args = some T at hT
    unfold q7T at hT
    split at hT
    · cases hT; exact ⟨_, head_true, hK⟩
    · cases hT
  · exact rdq 11 rd11 nil11
  · exact rdq 12 rd12 nil12
theorem enW_ok : EnOk cx0 (enOf elN tabW) := enOf_ok (fun t T h => by cases h) tabW_ok
theorem law4 (cl : Bool) (p : Pt) (l : List Box) : Pev cx0 4 [.imm false 4 cl (l.map Box.cs), .agg p.cs] (.bool true) := by
  have F : ∀ Q : Rs → Prop, vc cx0 (enOf elN tabW) 100 (.pcall 4 [.imm false 4 cl (l.map Box.cs), .agg p.cs]) Q = (brW (decide ((↑(List.length (List.map Box.cs l)) : Int) > 20)) (Q (Rs.val (V.bool true) Hp.empty)) (∃ l_1, List.map Box.cs l = List.map Box.cs l_1 ∧ Nat.le (List.length l_1) 20 ∧ ∃ l_2, List.map Box.cs l = List.map Box.cs l_2 ∧ Nat.le (List.length l_2) 20 ∧ Q (Rs.val (V.bool ((bif true then ringN l_1 p == ringN l_2 p else false) && ringC l_1 p == ringC l_2 p)) Hp.empty))) := fun Q => by kernel_rfl
  refine vcP enW_ok 100 ?_
  rw [F]
  refine brI (fun h => rfl) (fun h => ?_)
  simp only [List.length_map, decide_eq_false_iff_not] at h
  refine ⟨l, rfl, (by omega : l.length ≤ 20), l, rfl, (by omega : l.length ≤ 20), ?_⟩
  simp
theorem law4n (p : Pt) : Pev cx0 4 [.snil, .agg p.cs] (.bool true) := by
  have F : ∀ Q : Rs → Prop, vc cx0 (enOf elN tabW) 100 (.pcall 4 [.snil, .agg p.cs]) Q = (Q (Rs.val (V.bool true) Hp.empty)) := fun Q => by kernel_rfl
  refine vcP enW_ok 100 ?_
  rw [F]
end Go.Lf
end
