/- By an AI agent. What is proved here: plain laws of rings of boxes: turned round, begun elsewhere, smaller boxes, the winding number. -/
import Derived.Test.YtegoogghlakghaaGreatFp
import Derived.Laws.BitsLemmas
section
set_option linter.unusedVariables false
set_option linter.unusedSimpArgs false
namespace Go.Sp
/-! ### Rings of boxes: plain laws -/
def tz (a b c : Pt) : Int := (b.x - a.x) * (c.y - a.y) - (b.y - a.y) * (c.x - a.x)
theorem w64_id {n : Int} (h : -9223372036854775808 ≤ n) (h' : n < 9223372036854775808) : w64 n = n := by
  unfold w64
  rw [IntKind.wrap_i64]
  omega
theorem valid_iff {p : Pt} : p.valid = true ↔ -1048576 ≤ p.x ∧ p.x ≤ 1048576 ∧ -1048576 ≤ p.y ∧ p.y ≤ 1048576 := by
  simp only [Pt.valid, inB, Bool.and_eq_true, decide_eq_true_eq]; omega
theorem proper_iff {b : Box} : b.proper = true ↔ -1048576 ≤ b.x0 ∧ b.x0 ≤ b.x1 ∧ b.x1 ≤ 1048576 ∧ -1048576 ≤ b.y0 ∧ b.y0 ≤ b.y1 ∧ b.y1 ≤ 1048576 := by
  simp only [Box.proper, spanB, inB, Bool.and_eq_true, decide_eq_true_eq]; omega
theorem mul_bd {u v : Int} (h1 : -2097152 ≤ u) (h2 : u ≤ 2097152) (h3 : -2097152 ≤ v) (h4 : v ≤ 2097152) : -4398046511104 ≤ u * v ∧ u * v ≤ 4398046511104 := by
  have h : (u * v).natAbs ≤ 2097152 * 2097152 := by
    rw [Int.natAbs_mul]
    exact Nat.mul_le_mul (by omega) (by omega)
  omega
theorem tw_eq {a b c : Pt} (ha : a.valid = true) (hb : b.valid = true) (hc : c.valid = true) : tw a b c = tz a b c := by
  rw [valid_iff] at ha hb hc
  unfold tw tz
  have e1 : w64 (b.x - a.x) = b.x - a.x := w64_id (by omega) (by omega)
  have e2 : w64 (c.y - a.y) = c.y - a.y := w64_id (by omega) (by omega)
  have e3 : w64 (b.y - a.y) = b.y - a.y := w64_id (by omega) (by omega)
  have e4 : w64 (c.x - a.x) = c.x - a.x := w64_id (by omega) (by omega)
  rw [e1, e2, e3, e4]
  obtain ⟨m1, m2⟩ := mul_bd (u := b.x - a.x) (v := c.y - a.y) (by omega) (by omega) (by omega) (by omega)
  obtain ⟨m3, m4⟩ := mul_bd (u := b.y - a.y) (v := c.x - a.x) (by omega) (by omega) (by omega) (by omega)
  have e5 : w64 ((b.x - a.x) * (c.y - a.y)) = (b.x - a.x) * (c.y - a.y) := w64_id (by omega) (by omega)
  have e6 : w64 ((b.y - a.y) * (c.x - a.x)) = (b.y - a.y) * (c.x - a.x) := w64_id (by omega) (by omega)
  rw [e5, e6]
  exact w64_id (by omega) (by omega)
/-! a fold that covers -/
theorem fold_cov {α : Type} (g : Sn → α → Sn) (S : Int → Prop) (C : α → Sn → Prop)
    (hm : ∀ o x, (g o x).lo ≤ o.lo ∧ o.hi ≤ (g o x).hi) (hC : ∀ x o o', C x o → o'.lo ≤ o.lo → o.hi ≤ o'.hi → C x o') :
    ∀ (l : List α), (∀ o x, x ∈ l → C x (g o x)) → (∀ o x, x ∈ l → S o.lo → S o.hi → S (g o x).lo ∧ S (g o x).hi) → ∀ o,
      ((l.foldl g o).lo ≤ o.lo ∧ o.hi ≤ (l.foldl g o).hi) ∧ (S o.lo → S o.hi → S (l.foldl g o).lo ∧ S (l.foldl g o).hi) ∧ ∀ x ∈ l, C x (l.foldl g o)
  | [], _, _, o => ⟨⟨Int.le_refl _, Int.le_refl _⟩, fun a b => ⟨a, b⟩, fun x hx => by cases hx⟩
  | a :: l, hc, hs, o => by
    obtain ⟨h1, h2, h3⟩ := fold_cov g S C hm hC l (fun o x hx => hc o x (by simp [hx])) (fun o x hx => hs o x (by simp [hx])) (g o a)
    obtain ⟨m1, m2⟩ := hm o a
    simp only [List.foldl_cons]
    refine ⟨⟨by omega, by omega⟩, fun a1 a2 => ?_, fun x hx => ?_⟩
    · obtain ⟨s1, s2⟩ := hs o a (by simp) a1 a2
      exact h2 s1 s2
    · rcases List.mem_cons.1 hx with rfl | hx
      · exact hC _ _ _ (hc o x (by simp)) h1.1 h1.2
      · exact h3 x hx
theorem fold_mono {α : Type} (g : Sn → α → Sn) (hm : ∀ o x, (g o x).lo ≤ o.lo ∧ o.hi ≤ (g o x).hi) (l : List α) (o : Sn) : (l.foldl g o).lo ≤ o.lo ∧ o.hi ≤ (l.foldl g o).hi :=
  (fold_cov g (fun _ => True) (fun _ _ => True) hm (fun _ _ _ _ _ _ => trivial) l (fun _ _ _ => trivial) (fun _ _ _ _ _ => ⟨trivial, trivial⟩) o).1
theorem cover_mono (o : Sn) (n : Int) : (cover o ⟨n, n⟩).lo ≤ o.lo ∧ o.hi ≤ (cover o ⟨n, n⟩).hi := by
  simp only [cover, mn, mx]; constructor <;> split <;> omega
theorem cover_has (o : Sn) (n : Int) : (cover o ⟨n, n⟩).lo ≤ n ∧ n ≤ (cover o ⟨n, n⟩).hi := by
  simp only [cover, mn, mx]; constructor <;> split <;> omega
theorem cover_sub (S : Int → Prop) (o : Sn) (n : Int) (hn : S n) (h1 : S o.lo) (h2 : S o.hi) : S (cover o ⟨n, n⟩).lo ∧ S (cover o ⟨n, n⟩).hi := by
  simp only [cover, mn, mx]; constructor <;> split <;> assumption
/-- what the spread is: the least and the greatest over the corners -/
theorem spreadP_facts (a b c : Box) : (∃ p ∈ a.corners, ∃ q ∈ b.corners, ∃ r ∈ c.corners, (spreadP a b c).lo = tw p q r) ∧ (∃ p ∈ a.corners, ∃ q ∈ b.corners, ∃ r ∈ c.corners, (spreadP a b c).hi = tw p q r) ∧
    ∀ p ∈ a.corners, ∀ q ∈ b.corners, ∀ r ∈ c.corners, (spreadP a b c).lo ≤ tw p q r ∧ tw p q r ≤ (spreadP a b c).hi := by
  let S : Int → Prop := fun n => ∃ p ∈ a.corners, ∃ q ∈ b.corners, ∃ r ∈ c.corners, n = tw p q r
  have i1 : ∀ p ∈ a.corners, ∀ q ∈ b.corners, ∀ o, _ := fun p hp q hq => fold_cov (fun o r => cover o ⟨tw p q r, tw p q r⟩) S (fun r o => o.lo ≤ tw p q r ∧ tw p q r ≤ o.hi)
    (fun o x => cover_mono o _) (fun x o o' h h1 h2 => ⟨by omega, by omega⟩) c.corners (fun o x _ => cover_has o _) (fun o x hx h1 h2 => cover_sub S o _ ⟨p, hp, q, hq, x, hx, rfl⟩ h1 h2)
  have m1 : ∀ p q (o : Sn), _ := fun p q o => fold_mono (fun o r => cover o ⟨tw p q r, tw p q r⟩) (fun o x => cover_mono o _) c.corners o
  have i2 : ∀ p ∈ a.corners, ∀ o, _ := fun p hp => fold_cov (fun o q => c.corners.foldl (fun o r => cover o ⟨tw p q r, tw p q r⟩) o) S (fun q o => ∀ r ∈ c.corners, o.lo ≤ tw p q r ∧ tw p q r ≤ o.hi)
    (fun o x => m1 p x o) (fun x o o' h h1 h2 r hr => by have := h r hr; exact ⟨by omega, by omega⟩) b.corners (fun o x hx => (i1 p hp x hx o).2.2) (fun o x hx h1 h2 => (i1 p hp x hx o).2.1 h1 h2)
  have m2 : ∀ p (o : Sn), _ := fun p o => fold_mono (fun o q => c.corners.foldl (fun o r => cover o ⟨tw p q r, tw p q r⟩) o) (fun o x => m1 p x o) b.corners o
  have i3 := fold_cov (fun o p => b.corners.foldl (fun o q => c.corners.foldl (fun o r => cover o ⟨tw p q r, tw p q r⟩) o) o) S (fun p o => ∀ q ∈ b.corners, ∀ r ∈ c.corners, o.lo ≤ tw p q r ∧ tw p q r ≤ o.hi)
    (fun o x => m2 x o) (fun x o o' h h1 h2 q hq r hr => by have := h q hq r hr; exact ⟨by omega, by omega⟩) a.corners (fun o x hx => (i2 x hx o).2.2) (fun o x hx h1 h2 => (i2 x hx o).2.1 h1 h2)
  have h0 : S (tw ⟨a.x0, a.y0⟩ ⟨b.x0, b.y0⟩ ⟨c.x0, c.y0⟩) := ⟨_, by simp [Box.corners], _, by simp [Box.corners], _, by simp [Box.corners], rfl⟩
  obtain ⟨_, j2, j3⟩ := i3 ⟨tw ⟨a.x0, a.y0⟩ ⟨b.x0, b.y0⟩ ⟨c.x0, c.y0⟩, tw ⟨a.x0, a.y0⟩ ⟨b.x0, b.y0⟩ ⟨c.x0, c.y0⟩⟩
  obtain ⟨j4, j5⟩ := j2 h0 h0
  exact ⟨j4, j5, j3⟩
/-- a point of a box -/
def Box.has (b : Box) (p : Pt) : Prop := b.x0 ≤ p.x ∧ p.x ≤ b.x1 ∧ b.y0 ≤ p.y ∧ p.y ≤ b.y1
theorem corner_has {b : Box} (hb : b.proper = true) {p : Pt} (hp : p ∈ b.corners) : b.has p := by
  rw [proper_iff] at hb
  simp only [Box.corners, List.mem_cons, List.not_mem_nil, or_false] at hp
  rcases hp with rfl | rfl | rfl | rfl <;> exact ⟨by simp only; omega, by simp only; omega, by simp only; omega, by simp only; omega⟩
theorem has_valid {b : Box} (hb : b.proper = true) {p : Pt} (hp : b.has p) : p.valid = true := by
  rw [proper_iff] at hb
  obtain ⟨h1, h2, h3, h4⟩ := hp
  rw [valid_iff]; omega
theorem lin1 {m al c x0 x1 x : Int} (h0 : m ≤ al * x0 + c) (h1 : m ≤ al * x1 + c) (hx0 : x0 ≤ x) (hx1 : x ≤ x1) : m ≤ al * x + c := by
  rcases Int.le_total 0 al with h | h
  · have := Int.mul_le_mul_of_nonneg_left hx0 h; omega
  · have := Int.mul_le_mul_of_nonpos_left h hx1; omega
theorem lin2 {m al be c : Int} {b : Box} (h : ∀ q ∈ b.corners, m ≤ al * q.x + be * q.y + c) {p : Pt} (hp : b.has p) : m ≤ al * p.x + be * p.y + c := by
  have h1 := h ⟨b.x0, b.y0⟩ (by simp [Box.corners])
  have h2 := h ⟨b.x1, b.y0⟩ (by simp [Box.corners])
  have h3 := h ⟨b.x1, b.y1⟩ (by simp [Box.corners])
  have h4 := h ⟨b.x0, b.y1⟩ (by simp [Box.corners])
  simp only at h1 h2 h3 h4
  obtain ⟨p1, p2, p3, p4⟩ := hp
  have a1 : m ≤ al * p.x + (be * b.y0 + c) := lin1 (x0 := b.x0) (x1 := b.x1) (by omega) (by omega) p1 p2
  have a2 : m ≤ al * p.x + (be * b.y1 + c) := lin1 (x0 := b.x0) (x1 := b.x1) (by omega) (by omega) p1 p2
  have a3 : m ≤ be * p.y + (al * p.x + c) := lin1 (x0 := b.y0) (x1 := b.y1) (by omega) (by omega) p3 p4
  omega
theorem tz_u (u v p : Pt) : tz u v p = (v.y - p.y) * u.x + (p.x - v.x) * u.y + (v.x * p.y - v.y * p.x) := by unfold tz; grind
theorem tz_v (u v p : Pt) : tz u v p = (p.y - u.y) * v.x + (u.x - p.x) * v.y + (u.y * p.x - u.x * p.y) := by unfold tz; grind
theorem tz_rev (u v p : Pt) : tz v u p = - tz u v p := by unfold tz; grind
/-- what is linear in both points is least at the corners -/
theorem tz_least {m : Int} {a b : Box} {p : Pt} (h : ∀ u ∈ a.corners, ∀ v ∈ b.corners, m ≤ tz u v p) {u v : Pt} (hu : a.has u) (hv : b.has v) : m ≤ tz u v p := by
  have h1 : ∀ u ∈ a.corners, m ≤ tz u v p := fun u hu => by
    have := lin2 (m := m) (al := p.y - u.y) (be := u.x - p.x) (c := u.y * p.x - u.x * p.y) (b := b) (fun q hq => by rw [← tz_v]; exact h u hu q hq) hv
    rw [tz_v]; exact this
  have := lin2 (m := m) (al := v.y - p.y) (be := p.x - v.x) (c := v.x * p.y - v.y * p.x) (b := a) (fun q hq => by rw [← tz_u]; exact h1 q hq) hu
  rw [tz_u]; exact this
def Pt.dot (p : Pt) : Box := ⟨p.x, p.x, p.y, p.y⟩
theorem dot_proper (p : Pt) : p.dot.proper = p.valid := by
  rw [Bool.eq_iff_iff, proper_iff, valid_iff]; simp only [Pt.dot]; omega
theorem dot_corner {p r : Pt} (h : r ∈ p.dot.corners) : r = p := by
  simp only [Box.corners, Pt.dot, List.mem_cons, List.not_mem_nil, or_false, or_self] at h
  exact h
/-- the spread of an edge of boxes and a point -/
structure Spr (a b : Box) (p : Pt) (L H : Int) : Prop where
  all : ∀ u v, a.has u → b.has v → L ≤ tz u v p ∧ tz u v p ≤ H
  lo : ∃ u v, a.has u ∧ b.has v ∧ L = tz u v p
  hi : ∃ u v, a.has u ∧ b.has v ∧ H = tz u v p
theorem spr {a b : Box} {p : Pt} (ha : a.proper = true) (hb : b.proper = true) (hp : p.valid = true) : Spr a b p (spreadLo a b ⟨p.x, p.x, p.y, p.y⟩) (spreadHi a b ⟨p.x, p.x, p.y, p.y⟩) := by
  have hd : (Pt.dot p).proper = true := by rw [dot_proper]; exact hp
  have e : spreadOk a b p.dot = true := by simp only [spreadOk, ha, hb, hd, Bool.and_self]
  show Spr a b p (spreadLo a b p.dot) (spreadHi a b p.dot)
  simp only [spreadLo, spreadHi, e, cond_true]
  obtain ⟨⟨u1, hu1, v1, hv1, r1, hr1, e1⟩, ⟨u2, hu2, v2, hv2, r2, hr2, e2⟩, h3⟩ := spreadP_facts a b p.dot
  have hpc : p ∈ p.dot.corners := by simp [Box.corners, Pt.dot]
  have tw_tz : ∀ u ∈ a.corners, ∀ v ∈ b.corners, tw u v p = tz u v p := fun u hu v hv => tw_eq (has_valid ha (corner_has ha hu)) (has_valid hb (corner_has hb hv)) hp
  have hall : ∀ u ∈ a.corners, ∀ v ∈ b.corners, (spreadP a b p.dot).lo ≤ tz u v p ∧ tz u v p ≤ (spreadP a b p.dot).hi := fun u hu v hv => by
    rw [← tw_tz u hu v hv]; exact h3 u hu v hv p hpc
  rw [dot_corner hr1] at e1
  rw [dot_corner hr2] at e2
  refine ⟨fun u v hu hv => ⟨tz_least (fun u hu v hv => (hall u hu v hv).1) hu hv, ?_⟩, ⟨u1, v1, corner_has ha hu1, corner_has hb hv1, by rw [e1, tw_tz u1 hu1 v1 hv1]⟩, ⟨u2, v2, corner_has ha hu2, corner_has hb hv2, by rw [e2, tw_tz u2 hu2 v2 hv2]⟩⟩
  have := tz_least (m := -(spreadP a b p.dot).hi) (a := b) (b := a) (p := p) (fun v hv u hu => by rw [tz_rev]; have := (hall u hu v hv).2; omega) hv hu
  rw [tz_rev] at this
  omega
end Go.Sp
end

section
set_option linter.unusedVariables false
set_option linter.unusedSimpArgs false
namespace Go.Sp
theorem tz_split (u v p : Pt) : tz u v p = (v.x - p.x) * (p.y - u.y) + (p.x - u.x) * (p.y - v.y) := by unfold tz; grind
/-- an edge that goes up, to the west of the point -/
theorem up_west {u v p : Pt} (h1 : u.y ≤ p.y) (h2 : p.y < v.y) (h3 : u.x < p.x) (h4 : v.x < p.x) : tz u v p < 0 := by
  rw [tz_split]
  have a1 : (v.x - p.x) * (p.y - u.y) ≤ 0 := Int.mul_nonpos_of_nonpos_of_nonneg (by omega) (by omega)
  have a2 : (p.x - u.x) * (p.y - v.y) < 0 := Int.mul_neg_of_pos_of_neg (by omega) (by omega)
  omega
theorem up_east {u v p : Pt} (h1 : u.y ≤ p.y) (h2 : p.y < v.y) (h3 : p.x < u.x) (h4 : p.x < v.x) : 0 < tz u v p := by
  rw [tz_split]
  have a1 : 0 ≤ (v.x - p.x) * (p.y - u.y) := Int.mul_nonneg (by omega) (by omega)
  have a2 : 0 < (p.x - u.x) * (p.y - v.y) := Int.mul_pos_of_neg_of_neg (by omega) (by omega)
  omega
structure EdgeF (a b : Box) (p : Pt) (L H : Int) : Prop where
  le : L ≤ H
  uw : a.y1 ≤ p.y → p.y < b.y0 → a.x1 < p.x → b.x1 < p.x → H < 0
  ue : a.y1 ≤ p.y → p.y < b.y0 → p.x < a.x0 → p.x < b.x0 → 0 < L
  dw : b.y1 ≤ p.y → p.y < a.y0 → a.x1 < p.x → b.x1 < p.x → 0 < L
  de : b.y1 ≤ p.y → p.y < a.y0 → p.x < a.x0 → p.x < b.x0 → H < 0
theorem Spr.edge {a b : Box} {p : Pt} {L H : Int} (s : Spr a b p L H) : EdgeF a b p L H := by
  obtain ⟨u, v, hu, hv, hl⟩ := s.lo
  obtain ⟨u', v', hu', hv', hh⟩ := s.hi
  obtain ⟨b1, b2, b3, b4⟩ := hu
  obtain ⟨c1, c2, c3, c4⟩ := hv
  obtain ⟨b1', b2', b3', b4'⟩ := hu'
  obtain ⟨c1', c2', c3', c4'⟩ := hv'
  refine ⟨?_, fun h1 h2 h3 h4 => ?_, fun h1 h2 h3 h4 => ?_, fun h1 h2 h3 h4 => ?_, fun h1 h2 h3 h4 => ?_⟩
  · have := (s.all u v ⟨b1, b2, b3, b4⟩ ⟨c1, c2, c3, c4⟩).2; omega
  · rw [hh]; exact up_west (by omega) (by omega) (by omega) (by omega)
  · rw [hl]; exact up_east (by omega) (by omega) (by omega) (by omega)
  · rw [hl]
    have := up_west (u := v) (v := u) (p := p) (by omega) (by omega) (by omega) (by omega)
    rw [tz_rev] at this; omega
  · rw [hh]
    have := up_east (u := v') (v := u') (p := p) (by omega) (by omega) (by omega) (by omega)
    rw [tz_rev] at this; omega
/-- the edge's count and clearness, in numbers -/
theorem edge_cases (a b : Box) (p : Pt) :
    let L := spreadLo a b ⟨p.x, p.x, p.y, p.y⟩
    let H := spreadHi a b ⟨p.x, p.x, p.y, p.y⟩
    (edgeC a b p = true ↔ (a.x1 < p.x ∧ b.x1 < p.x) ∨ (((p.x < a.x0 ∧ p.x < b.x0) ∨ (a.y1 < p.y ∧ b.y1 < p.y) ∨ (p.y < a.y0 ∧ p.y < b.y0) ∨ 0 < L ∨ H < 0) ∧ (a.y1 ≤ p.y ∨ p.y < a.y0) ∧ (b.y1 ≤ p.y ∨ p.y < b.y0))) ∧
    (edgeC a b p = true → (edgeN a b p = 1 ∧ ¬ (a.x1 < p.x ∧ b.x1 < p.x) ∧ a.y1 ≤ p.y ∧ p.y < b.y0 ∧ 0 < L) ∨ (edgeN a b p = -1 ∧ ¬ (a.x1 < p.x ∧ b.x1 < p.x) ∧ ¬ (a.y1 ≤ p.y ∧ p.y < b.y0 ∧ 0 < L) ∧ b.y1 ≤ p.y ∧ p.y < a.y0 ∧ H < 0) ∨
      (edgeN a b p = 0 ∧ ((a.x1 < p.x ∧ b.x1 < p.x) ∨ (¬ (a.y1 ≤ p.y ∧ p.y < b.y0 ∧ 0 < L) ∧ ¬ (b.y1 ≤ p.y ∧ p.y < a.y0 ∧ H < 0))))) := by
  intro L H
  have hC : edgeC a b p = (edgeW a b p || (!(edgeBad a b p) && !(edgeMix a b p))) := by
    unfold edgeC edgeBad
    cases edgeW a b p <;> simp <;> cases edgeMix a b p <;> simp
  constructor
  · rw [hC]
    simp only [edgeW, edgeBad, edgeMix, Bool.or_eq_true, Bool.and_eq_true, decide_eq_true_eq, Bool.not_eq_true', Bool.and_eq_false_iff, Bool.or_eq_false_iff, Bool.not_eq_false', decide_eq_false_iff_not, Bool.not_eq_false]
    show _ ↔ _
    change (_ ∨ (_ ∨ (L > 0 ∨ H < 0)) ∧ _) ↔ _
    omega
  · intro h
    have hb : edgeBad a b p = false := by
      rw [hC] at h
      cases hb : edgeBad a b p with
      | false => rfl
      | true =>
        rw [hb] at h
        simp only [Bool.not_true, Bool.false_and, Bool.or_false] at h
        unfold edgeBad at hb
        rw [h] at hb; simp at hb
    unfold edgeN
    rw [hb, cond_false]
    cases hw : edgeW a b p with
    | true =>
      simp only [cond_true]
      simp only [edgeW, Bool.and_eq_true, decide_eq_true_eq] at hw
      exact .inr (.inr ⟨trivial, .inl hw⟩)
    | false =>
      have hm : edgeMix a b p = false := by rw [hC, hw, hb] at h; simpa using h
      rw [hm]
      simp only [cond_false]
      have hw' : ¬ (a.x1 < p.x ∧ b.x1 < p.x) := by simpa [edgeW] using hw
      cases h1 : (decide (a.y1 ≤ p.y) && decide (b.y0 > p.y) && decide (spreadLo a b ⟨p.x, p.x, p.y, p.y⟩ > 0)) with
      | true =>
        simp only [cond_true]
        simp only [Bool.and_eq_true, decide_eq_true_eq] at h1
        exact .inl ⟨trivial, hw', h1.1.1, h1.1.2, h1.2⟩
      | false =>
        have h1' : ¬ (a.y1 ≤ p.y ∧ p.y < b.y0 ∧ 0 < L) := fun ⟨x1, x2, x3⟩ => by
          have : (decide (a.y1 ≤ p.y) && decide (b.y0 > p.y) && decide (spreadLo a b ⟨p.x, p.x, p.y, p.y⟩ > 0)) = true := by
            simp only [Bool.and_eq_true, decide_eq_true_eq]; exact ⟨⟨x1, x2⟩, x3⟩
          rw [h1] at this; cases this
        simp only [cond_false]
        cases h2 : (decide (a.y0 > p.y) && decide (b.y1 ≤ p.y) && decide (spreadHi a b ⟨p.x, p.x, p.y, p.y⟩ < 0)) with
        | true =>
          simp only [cond_true]
          simp only [Bool.and_eq_true, decide_eq_true_eq] at h2
          exact .inr (.inl ⟨trivial, hw', h1', h2.1.2, h2.1.1, h2.2⟩)
        | false =>
          have h2' : ¬ (b.y1 ≤ p.y ∧ p.y < a.y0 ∧ H < 0) := fun ⟨x1, x2, x3⟩ => by
            have : (decide (a.y0 > p.y) && decide (b.y1 ≤ p.y) && decide (spreadHi a b ⟨p.x, p.x, p.y, p.y⟩ < 0)) = true := by
              simp only [Bool.and_eq_true, decide_eq_true_eq]; exact ⟨⟨x2, x1⟩, x3⟩
            rw [h2] at this; cases this
          simp only [cond_false]
          exact .inr (.inr ⟨trivial, .inr ⟨h1', h2'⟩⟩)
/-- an edge turned round -/
theorem edge_rev {a b : Box} {p : Pt} (ha : a.proper = true) (hb : b.proper = true) (hp : p.valid = true) : edgeC b a p = edgeC a b p ∧ (edgeC a b p = true → edgeN b a p = - edgeN a b p) := by
  have s := spr ha hb hp
  have s' := spr hb ha hp
  obtain ⟨i1, i2⟩ := edge_cases a b p
  obtain ⟨j1, j2⟩ := edge_cases b a p
  have e := s.edge
  have e' := s'.edge
  generalize spreadLo a b ⟨p.x, p.x, p.y, p.y⟩ = L at *
  generalize spreadHi a b ⟨p.x, p.x, p.y, p.y⟩ = H at *
  generalize spreadLo b a ⟨p.x, p.x, p.y, p.y⟩ = L' at *
  generalize spreadHi b a ⟨p.x, p.x, p.y, p.y⟩ = H' at *
  have hL : L' = -H := by
    obtain ⟨u, v, hu, hv, h1⟩ := s'.lo
    obtain ⟨u2, v2, hu2, hv2, h2⟩ := s.hi
    have x1 := s.all v u hv hu
    have x2 := s'.all v2 u2 hv2 hu2
    rw [tz_rev u v] at x1
    rw [tz_rev u2 v2] at x2
    omega
  have hH : H' = -L := by
    obtain ⟨u, v, hu, hv, h1⟩ := s'.hi
    obtain ⟨u2, v2, hu2, hv2, h2⟩ := s.lo
    have x1 := s.all v u hv hu
    have x2 := s'.all v2 u2 hv2 hu2
    rw [tz_rev u v] at x1
    rw [tz_rev u2 v2] at x2
    omega
  subst hL hH
  rw [proper_iff] at ha hb
  have hC : edgeC b a p = edgeC a b p := by
    rw [Bool.eq_iff_iff, i1, j1]; omega
  refine ⟨hC, fun h => ?_⟩
  have k1 := i2 h
  have k2 := j2 (by rw [hC]; exact h)
  have := e.le
  omega
def Box.sub (a b : Box) : Prop := b.x0 ≤ a.x0 ∧ a.x1 ≤ b.x1 ∧ b.y0 ≤ a.y0 ∧ a.y1 ≤ b.y1
theorem Box.sub_has {a b : Box} (h : a.sub b) {p : Pt} (hp : a.has p) : b.has p := by
  obtain ⟨h1, h2, h3, h4⟩ := h
  obtain ⟨p1, p2, p3, p4⟩ := hp
  exact ⟨by omega, by omega, by omega, by omega⟩
/-- smaller boxes -/
theorem edge_small {a b a' b' : Box} {p : Pt} (ha : a.proper = true) (hb : b.proper = true) (ha' : a'.proper = true) (hb' : b'.proper = true) (hp : p.valid = true) (sa : a'.sub a) (sb : b'.sub b)
    (h : edgeC a b p = true) : edgeC a' b' p = true ∧ edgeN a' b' p = edgeN a b p := by
  have s := spr ha hb hp
  have s' := spr ha' hb' hp
  obtain ⟨i1, i2⟩ := edge_cases a b p
  obtain ⟨j1, j2⟩ := edge_cases a' b' p
  have e := s.edge
  have e' := s'.edge
  generalize spreadLo a b ⟨p.x, p.x, p.y, p.y⟩ = L at *
  generalize spreadHi a b ⟨p.x, p.x, p.y, p.y⟩ = H at *
  generalize spreadLo a' b' ⟨p.x, p.x, p.y, p.y⟩ = L' at *
  generalize spreadHi a' b' ⟨p.x, p.x, p.y, p.y⟩ = H' at *
  have hL : L ≤ L' := by
    obtain ⟨u, v, hu, hv, h1⟩ := s'.lo
    have := s.all u v (Box.sub_has sa hu) (Box.sub_has sb hv)
    omega
  have hH : H' ≤ H := by
    obtain ⟨u, v, hu, hv, h1⟩ := s'.hi
    have := s.all u v (Box.sub_has sa hu) (Box.sub_has sb hv)
    omega
  rw [proper_iff] at ha hb ha' hb'
  obtain ⟨q1, q2, q3, q4⟩ := sa
  obtain ⟨r1, r2, r3, r4⟩ := sb
  have hC := i1.1 h
  obtain ⟨e0, e1, e2, e3, e4⟩ := e
  obtain ⟨f0, f1, f2, f3, f4⟩ := e'
  have hC' : edgeC a' b' p = true := by
    rw [j1]
    rcases hC with hC | ⟨h1, h2, h3⟩
    · exact .inl ⟨by omega, by omega⟩
    · refine .inr ⟨?_, by omega, by omega⟩
      rcases h1 with h1 | h1 | h1 | h1 | h1
      · exact .inl ⟨by omega, by omega⟩
      · exact .inr (.inl ⟨by omega, by omega⟩)
      · exact .inr (.inr (.inl ⟨by omega, by omega⟩))
      · exact .inr (.inr (.inr (.inl (by omega))))
      · exact .inr (.inr (.inr (.inr (by omega))))
  have k1 := i2 h
  have k2 := j2 hC'
  refine ⟨hC', ?_⟩
  clear i1 i2 j1 j2
  rcases k1 with ⟨n1, w1, u1, u2, u3⟩ | ⟨n1, w1, w2, u1, u2, u3⟩ | ⟨n1, w1⟩
  · rcases k2 with ⟨n2, x⟩ | ⟨n2, x1, x2, x3, x4, x5⟩ | ⟨n2, x1 | ⟨x2, x3⟩⟩
    · rw [n1, n2]
    · exfalso; omega
    · exfalso; have := f1 (by omega) (by omega) x1.1 x1.2; omega
    · exact absurd ⟨by omega, by omega, by omega⟩ x2
  · rcases k2 with ⟨n2, x1, x2, x3, x4⟩ | ⟨n2, x⟩ | ⟨n2, x1 | ⟨x2, x3⟩⟩
    · exfalso; omega
    · rw [n1, n2]
    · exfalso; have := f3 (by omega) (by omega) x1.1 x1.2; omega
    · exact absurd ⟨by omega, by omega, by omega⟩ x3
  · rcases k2 with ⟨n2, x1, x2, x3, x4⟩ | ⟨n2, x1, x2, x3, x4, x5⟩ | ⟨n2, x⟩
    · exfalso
      rcases w1 with w1 | ⟨w1, w2⟩
      · omega
      · rcases hC with hC | ⟨h1, h2, h3⟩
        · omega
        · have y1 : a.y1 ≤ p.y := by omega
          have y2 : p.y < b.y0 := by omega
          have y3 : ¬ 0 < L := fun y => w1 ⟨y1, y2, y⟩
          rcases h1 with h1 | h1 | h1 | h1 | h1
          · exact y3 (e2 y1 y2 h1.1 h1.2)
          · omega
          · omega
          · omega
          · omega
    · exfalso
      rcases w1 with w1 | ⟨w1, w2⟩
      · omega
      · rcases hC with hC | ⟨h1, h2, h3⟩
        · omega
        · have y1 : b.y1 ≤ p.y := by omega
          have y2 : p.y < a.y0 := by omega
          have y3 : ¬ H < 0 := fun y => w2 ⟨y1, y2, y⟩
          rcases h1 with h1 | h1 | h1 | h1 | h1
          · exact y3 (e4 y1 y2 h1.1 h1.2)
          · omega
          · omega
          · omega
          · omega
    · rw [n1, n2]
end Go.Sp
end

section
set_option linter.unusedVariables false
set_option linter.unusedSimpArgs false
namespace Go.Sp
def onB (a b p : Pt) : Bool := (inB p.x (mn a.x b.x) (mx a.x b.x) && inB p.y (mn a.y b.y) (mx a.y b.y)) && (tw a b p == 0)
def windE (a b p : Pt) : Int := cond (decide (a.y ≤ p.y) && (decide (b.y > p.y) && decide (tw a b p > 0))) 1 (cond (decide (a.y > p.y) && (decide (b.y ≤ p.y) && decide (tw a b p < 0))) (-1) 0)
def ptsE (l : List Pt) : List (Pt × Pt) := l.zip (l.tail ++ l.take 1)
def windN (l : List Pt) (p : Pt) : Int := (ptsE l).foldl (fun n e => w64 (n + windE e.1 e.2 p)) 0
def alongB (l : List Pt) (p : Pt) : Bool := (ptsE l).any fun e => onB e.1 e.2 p
theorem dot_has (u : Pt) : u.dot.has u := ⟨Int.le_refl _, Int.le_refl _, Int.le_refl _, Int.le_refl _⟩
theorem dot_only {u v : Pt} (h : u.dot.has v) : v = u := by
  obtain ⟨h1, h2, h3, h4⟩ := h
  cases u; cases v
  simp only [Pt.dot] at h1 h2 h3 h4
  simp only [Pt.mk.injEq]; omega
theorem mn_or (a b : Int) : (mn a b = a ∧ a ≤ b) ∨ (mn a b = b ∧ b < a) := by unfold mn; split <;> omega
theorem mx_or (a b : Int) : (mx a b = a ∧ b ≤ a) ∨ (mx a b = b ∧ a < b) := by unfold mx; split <;> omega
theorem edge_dot {u v p : Pt} (hu : u.valid = true) (hv : v.valid = true) (hp : p.valid = true) (h : edgeC u.dot v.dot p = true) : onB u v p = false ∧ windE u v p = edgeN u.dot v.dot p := by
  have s := spr (a := u.dot) (b := v.dot) (by rw [dot_proper]; exact hu) (by rw [dot_proper]; exact hv) hp
  obtain ⟨i1, i2⟩ := edge_cases u.dot v.dot p
  have e := s.edge
  generalize spreadLo u.dot v.dot ⟨p.x, p.x, p.y, p.y⟩ = L at *
  generalize spreadHi u.dot v.dot ⟨p.x, p.x, p.y, p.y⟩ = H at *
  have t := tw_eq hu hv hp
  obtain ⟨u1, v1, hu1, hv1, h1⟩ := s.lo
  obtain ⟨u2, v2, hu2, hv2, h2⟩ := s.hi
  rw [dot_only hu1, dot_only hv1] at h1
  rw [dot_only hu2, dot_only hv2] at h2
  have hC := i1.1 h
  have k1 := i2 h
  obtain ⟨e0, e1, e2, e3, e4⟩ := e
  generalize edgeN u.dot v.dot p = EN at *
  simp only [Pt.dot] at hC k1 e1 e2 e3 e4
  unfold onB windE
  rw [t, ← h1]
  have hLH : H = L := by rw [h1, h2]
  subst hLH
  constructor
  · have n1 := mn_or u.x v.x
    have n2 := mx_or u.x v.x
    have n3 := mn_or u.y v.y
    have n4 := mx_or u.y v.y
    generalize mn u.x v.x = m1 at *
    generalize mx u.x v.x = m2 at *
    generalize mn u.y v.y = m3 at *
    generalize mx u.y v.y = m4 at *
    by_cases hz : H = 0
    · have : ¬ (m1 ≤ p.x ∧ p.x ≤ m2 ∧ m3 ≤ p.y ∧ p.y ≤ m4) := by omega
      simp only [inB, Bool.and_eq_false_iff, decide_eq_false_iff_not]
      omega
    · simp [hz]
  · have c1 : (decide (u.y ≤ p.y) && (decide (v.y > p.y) && decide (H > 0))) = decide (u.y ≤ p.y ∧ p.y < v.y ∧ 0 < H) := by
      rw [Bool.eq_iff_iff]; simp only [Bool.and_eq_true, decide_eq_true_eq] <;> omega
    have c2 : (decide (u.y > p.y) && (decide (v.y ≤ p.y) && decide (H < 0))) = decide (v.y ≤ p.y ∧ p.y < u.y ∧ H < 0) := by
      rw [Bool.eq_iff_iff]; simp only [Bool.and_eq_true, decide_eq_true_eq] <;> omega
    rw [c1, c2]
    rcases k1 with ⟨n1, w1, u1, u2, u3⟩ | ⟨n1, w1, w2, u1, u2, u3⟩ | ⟨n1, w1⟩
    · rw [n1, decide_eq_true (show u.y ≤ p.y ∧ p.y < v.y ∧ 0 < H from ⟨u1, u2, u3⟩)]; rfl
    · rw [n1, decide_eq_false w2, decide_eq_true (show v.y ≤ p.y ∧ p.y < u.y ∧ H < 0 from ⟨u1, u2, u3⟩)]; rfl
    · rw [n1]
      have d1 : ¬ (u.y ≤ p.y ∧ p.y < v.y ∧ 0 < H) := by
        rintro ⟨x1, x2, x3⟩
        rcases w1 with w1 | w1
        · have := e1 x1 x2 w1.1 w1.2; omega
        · exact w1.1 ⟨x1, x2, x3⟩
      have d2 : ¬ (v.y ≤ p.y ∧ p.y < u.y ∧ H < 0) := by
        rintro ⟨x1, x2, x3⟩
        rcases w1 with w1 | w1
        · have := e3 x1 x2 w1.1 w1.2; omega
        · exact w1.2 ⟨x1, x2, x3⟩
      rw [decide_eq_false d1, decide_eq_false d2]; rfl
/-- an edge counts at most once -/
theorem edgeN_bd (a b : Box) (p : Pt) : -1 ≤ edgeN a b p ∧ edgeN a b p ≤ 1 := by
  unfold edgeN
  cases edgeBad a b p <;> cases edgeW a b p <;> cases edgeMix a b p <;> simp only [cond_true, cond_false] <;> try decide
  cases (decide (a.y1 ≤ p.y) && decide (b.y0 > p.y) && decide (spreadLo a b ⟨p.x, p.x, p.y, p.y⟩ > 0)) <;> simp only [cond_true, cond_false] <;> try decide
  cases (decide (a.y0 > p.y) && decide (b.y1 ≤ p.y) && decide (spreadHi a b ⟨p.x, p.x, p.y, p.y⟩ < 0)) <;> simp only [cond_true, cond_false] <;> decide
end Go.Sp
end

section
set_option linter.unusedVariables false
set_option linter.unusedSimpArgs false
set_option maxHeartbeats 1000000
namespace Go.Sp
theorem fold_sum {α : Type} (f : α → Int) (hf : ∀ x, -1 ≤ f x ∧ f x ≤ 1) : ∀ (L : List α) (a : Int), -1000 - a ≤ L.length → a + L.length ≤ 1000 → -1000 ≤ a - L.length → L.foldl (fun n e => w64 (n + f e)) a = a + (L.map f).sum
  | [], a, _, _, _ => by simp
  | x :: L, a, h0, h1, h2 => by
    have := hf x
    simp only [List.length_cons] at h0 h1 h2
    simp only [List.foldl_cons, List.map_cons, List.sum_cons]
    rw [w64_id (by omega) (by omega), fold_sum f hf L _ (by omega) (by omega) (by omega)]
    omega
theorem windE_bd (a b p : Pt) : -1 ≤ windE a b p ∧ windE a b p ≤ 1 := by
  unfold windE
  cases (decide (a.y ≤ p.y) && (decide (b.y > p.y) && decide (tw a b p > 0))) <;> cases (decide (a.y > p.y) && (decide (b.y ≤ p.y) && decide (tw a b p < 0))) <;> simp only [cond_true, cond_false] <;> decide
theorem ringN_sum {l : List Box} {p : Pt} (hl : (ringE l).length ≤ 6) (h : ringC l p = true) : ringN l p = ((ringE l).map fun e => edgeN e.1 e.2 p).sum := by
  unfold ringN
  rw [h, cond_true, fold_sum (fun e : Box × Box => edgeN e.1 e.2 p) (fun e => edgeN_bd _ _ _) _ _ (by omega) (by omega) (by omega)]
  omega
theorem windN_sum {l : List Pt} {p : Pt} (hl : (ptsE l).length ≤ 6) : windN l p = ((ptsE l).map fun e => windE e.1 e.2 p).sum := by
  unfold windN
  rw [fold_sum (fun e : Pt × Pt => windE e.1 e.2 p) (fun e => windE_bd _ _ _) _ _ (by omega) (by omega) (by omega)]
  omega
def Pt.low (q : Pt) (b : Box) : Box := ⟨q.x, q.x, q.y, b.y1⟩
theorem low_proper {q : Pt} {b : Box} (hb : b.proper = true) (h : b.has q) : (q.low b).proper = true ∧ (q.low b).sub b ∧ q.dot.proper = true ∧ q.dot.sub b ∧ q.valid = true := by
  have hv := has_valid hb h
  obtain ⟨h1, h2, h3, h4⟩ := h
  rw [dot_proper]
  rw [proper_iff] at hb
  refine ⟨proper_iff.2 ?_, ⟨?_, ?_, ?_, ?_⟩, hv, ⟨?_, ?_, ?_, ?_⟩, hv⟩ <;> simp only [Pt.low, Pt.dot] <;> omega
theorem ringC_ok {l : List Box} {p : Pt} (h : ringC l p = true) : ringOk l p = true ∧ ∀ e ∈ ringE l, edgeC e.1 e.2 p = true := by
  unfold ringC at h
  rw [Bool.and_eq_true, List.all_eq_true] at h
  exact h
theorem ringC_of {l : List Box} {p : Pt} (h : ringOk l p = true) (h2 : ∀ e ∈ ringE l, edgeC e.1 e.2 p = true) : ringC l p = true := by
  unfold ringC
  rw [Bool.and_eq_true, List.all_eq_true]
  exact ⟨h, h2⟩
theorem ringOk_iff {l : List Box} {p : Pt} : ringOk l p = true ↔ 3 ≤ l.length ∧ l.length ≤ 6 ∧ p.valid = true ∧ ∀ b ∈ l, b.proper = true := by
  simp only [ringOk, inB, Bool.and_eq_true, decide_eq_true_eq, List.all_eq_true]
  constructor
  · rintro ⟨⟨⟨a, b⟩, c⟩, d⟩; exact ⟨by omega, by omega, c, d⟩
  · rintro ⟨a, b, c, d⟩; exact ⟨⟨⟨by omega, by omega⟩, c⟩, d⟩
theorem rings3 (b0 b1 b2 : Box) (q0 q1 q2 p : Pt) (hb0 : b0.proper = true) (hb1 : b1.proper = true) (hb2 : b2.proper = true) (hq0 : b0.has q0) (hq1 : b1.has q1) (hq2 : b2.has q2) (h : ringC [b0, b1, b2] p = true) : ringC [b2, b1, b0] p = true ∧ ringN [b2, b1, b0] p = w64 (0 - ringN [b0, b1, b2] p) ∧ ringC [q0.low b0, q1.low b1, q2.low b2] p = true ∧ ringN [q0.low b0, q1.low b1, q2.low b2] p = ringN [b0, b1, b2] p ∧ ringC [q0.dot, q1.dot, q2.dot] p = true ∧ ringN [q0.dot, q1.dot, q2.dot] p = ringN [b0, b1, b2] p := by
  obtain ⟨ho, he⟩ := ringC_ok h
  obtain ⟨_, _, hv, _⟩ := ringOk_iff.1 ho
  have c01 := he (b0, b1) (by simp [ringE])
  have c12 := he (b1, b2) (by simp [ringE])
  have c20 := he (b2, b0) (by simp [ringE])
  obtain ⟨lp0, ls0, dp0, ds0, _⟩ := low_proper hb0 hq0
  obtain ⟨lp1, ls1, dp1, ds1, _⟩ := low_proper hb1 hq1
  obtain ⟨lp2, ls2, dp2, ds2, _⟩ := low_proper hb2 hq2
  obtain ⟨r01, t01⟩ := edge_rev hb0 hb1 hv
  have t01 := t01 c01
  rw [c01] at r01
  obtain ⟨s01, u01⟩ := edge_small hb0 hb1 lp0 lp1 hv ls0 ls1 c01
  obtain ⟨v01, w01⟩ := edge_small hb0 hb1 dp0 dp1 hv ds0 ds1 c01
  obtain ⟨r12, t12⟩ := edge_rev hb1 hb2 hv
  have t12 := t12 c12
  rw [c12] at r12
  obtain ⟨s12, u12⟩ := edge_small hb1 hb2 lp1 lp2 hv ls1 ls2 c12
  obtain ⟨v12, w12⟩ := edge_small hb1 hb2 dp1 dp2 hv ds1 ds2 c12
  obtain ⟨r20, t20⟩ := edge_rev hb2 hb0 hv
  have t20 := t20 c20
  rw [c20] at r20
  obtain ⟨s20, u20⟩ := edge_small hb2 hb0 lp2 lp0 hv ls2 ls0 c20
  obtain ⟨v20, w20⟩ := edge_small hb2 hb0 dp2 dp0 hv ds2 ds0 c20
  have hT : ringC [b2, b1, b0] p = true := by
    refine ringC_of (ringOk_iff.2 ⟨by simp, by simp, hv, fun b hb => ?_⟩) fun e he => ?_
    · simp only [List.mem_cons, List.not_mem_nil, or_false] at hb
      rcases hb with rfl | rfl | rfl <;> assumption
    · simp only [ringE, List.zip_cons_cons, List.zip_nil_left, List.zip_nil_right, List.tail_cons, List.take_succ_cons, List.take_zero, List.cons_append, List.nil_append, List.mem_cons, List.not_mem_nil, or_false] at he
      rcases he with rfl | rfl | rfl <;> assumption
  have hS : ringC [q0.low b0, q1.low b1, q2.low b2] p = true := by
    refine ringC_of (ringOk_iff.2 ⟨by simp, by simp, hv, fun b hb => ?_⟩) fun e he => ?_
    · simp only [List.mem_cons, List.not_mem_nil, or_false] at hb
      rcases hb with rfl | rfl | rfl <;> assumption
    · simp only [ringE, List.zip_cons_cons, List.zip_nil_left, List.zip_nil_right, List.tail_cons, List.take_succ_cons, List.take_zero, List.cons_append, List.nil_append, List.mem_cons, List.not_mem_nil, or_false] at he
      rcases he with rfl | rfl | rfl <;> assumption
  have hD : ringC [q0.dot, q1.dot, q2.dot] p = true := by
    refine ringC_of (ringOk_iff.2 ⟨by simp, by simp, hv, fun b hb => ?_⟩) fun e he => ?_
    · simp only [List.mem_cons, List.not_mem_nil, or_false] at hb
      rcases hb with rfl | rfl | rfl <;> assumption
    · simp only [ringE, List.zip_cons_cons, List.zip_nil_left, List.zip_nil_right, List.tail_cons, List.take_succ_cons, List.take_zero, List.cons_append, List.nil_append, List.mem_cons, List.not_mem_nil, or_false] at he
      rcases he with rfl | rfl | rfl <;> assumption
  have nL := ringN_sum (l := [b0, b1, b2]) (p := p) (by simp [ringE]) h
  have nT := ringN_sum (l := [b2, b1, b0]) (p := p) (by simp [ringE]) hT
  have nS := ringN_sum (l := [q0.low b0, q1.low b1, q2.low b2]) (p := p) (by simp [ringE]) hS
  have nD := ringN_sum (l := [q0.dot, q1.dot, q2.dot]) (p := p) (by simp [ringE]) hD
  simp only [ringE, List.zip_cons_cons, List.zip_nil_left, List.zip_nil_right, List.tail_cons, List.take_succ_cons, List.take_zero, List.cons_append, List.nil_append, List.map_cons, List.map_nil, List.sum_cons, List.sum_nil] at nL nT nS nD
  have := edgeN_bd b0 b1 p
  have := edgeN_bd b1 b2 p
  have := edgeN_bd b2 b0 p
  refine ⟨hT, ?_, hS, ?_, hD, ?_⟩
  · rw [w64_id (by omega) (by omega)]; omega
  · omega
  · omega
theorem winds3 (q0 q1 q2 p : Pt) (h : ringC [q0.dot, q1.dot, q2.dot] p = true) : alongB [q0, q1, q2] p = false ∧ windN [q0, q1, q2] p = ringN [q0.dot, q1.dot, q2.dot] p ∧ p.valid = true ∧ q0.valid = true ∧ q1.valid = true ∧ q2.valid = true := by
  obtain ⟨ho, he⟩ := ringC_ok h
  obtain ⟨_, _, hv, hpr⟩ := ringOk_iff.1 ho
  have v0 : q0.valid = true := by rw [← dot_proper]; exact hpr _ (by simp)
  have v1 : q1.valid = true := by rw [← dot_proper]; exact hpr _ (by simp)
  have v2 : q2.valid = true := by rw [← dot_proper]; exact hpr _ (by simp)
  obtain ⟨a01, w01⟩ := edge_dot v0 v1 hv (he (q0.dot, q1.dot) (by simp [ringE]))
  obtain ⟨a12, w12⟩ := edge_dot v1 v2 hv (he (q1.dot, q2.dot) (by simp [ringE]))
  obtain ⟨a20, w20⟩ := edge_dot v2 v0 hv (he (q2.dot, q0.dot) (by simp [ringE]))
  refine ⟨?_, ?_, hv, v0, v1, v2⟩
  · simp [alongB, ptsE, *]
  · rw [ringN_sum (l := [q0.dot, q1.dot, q2.dot]) (p := p) (by simp [ringE]) h, windN_sum (by simp [ptsE])]
    simp only [ptsE, ringE, List.zip_cons_cons, List.zip_nil_left, List.zip_nil_right, List.tail_cons, List.take_succ_cons, List.take_zero, List.cons_append, List.nil_append, List.map_cons, List.map_nil, List.sum_cons, List.sum_nil, *]
theorem rot3_1 (b0 b1 b2 : Box) (p : Pt) : ringC [b1, b2, b0] p = ringC [b0, b1, b2] p ∧ ringN [b1, b2, b0] p = ringN [b0, b1, b2] p := by
  have hC : ringC [b1, b2, b0] p = ringC [b0, b1, b2] p := by
    rw [Bool.eq_iff_iff]
    constructor <;> intro h <;> obtain ⟨ho, he⟩ := ringC_ok h <;> obtain ⟨_, _, hv, hpr⟩ := ringOk_iff.1 ho <;> refine ringC_of (ringOk_iff.2 ⟨by simp, by simp, hv, fun b hb => hpr b ?_⟩) fun e hm => he e ?_ <;> simp only [ringE, List.zip_cons_cons, List.zip_nil_left, List.zip_nil_right, List.tail_cons, List.take_succ_cons, List.take_zero, List.cons_append, List.nil_append, List.mem_cons, List.not_mem_nil, or_false] at * <;> grind
  refine ⟨hC, ?_⟩
  cases h : ringC [b0, b1, b2] p with
  | true =>
    rw [ringN_sum (by simp [ringE]) h, ringN_sum (by simp [ringE]) (by rw [hC]; exact h)]
    simp only [ringE, List.zip_cons_cons, List.zip_nil_left, List.zip_nil_right, List.tail_cons, List.take_succ_cons, List.take_zero, List.cons_append, List.nil_append, List.map_cons, List.map_nil, List.sum_cons, List.sum_nil]
    omega
  | false => unfold ringN; rw [hC, h]; rfl
theorem rot3_2 (b0 b1 b2 : Box) (p : Pt) : ringC [b2, b0, b1] p = ringC [b0, b1, b2] p ∧ ringN [b2, b0, b1] p = ringN [b0, b1, b2] p := by
  have hC : ringC [b2, b0, b1] p = ringC [b0, b1, b2] p := by
    rw [Bool.eq_iff_iff]
    constructor <;> intro h <;> obtain ⟨ho, he⟩ := ringC_ok h <;> obtain ⟨_, _, hv, hpr⟩ := ringOk_iff.1 ho <;> refine ringC_of (ringOk_iff.2 ⟨by simp, by simp, hv, fun b hb => hpr b ?_⟩) fun e hm => he e ?_ <;> simp only [ringE, List.zip_cons_cons, List.zip_nil_left, List.zip_nil_right, List.tail_cons, List.take_succ_cons, List.take_zero, List.cons_append, List.nil_append, List.mem_cons, List.not_mem_nil, or_false] at * <;> grind
  refine ⟨hC, ?_⟩
  cases h : ringC [b0, b1, b2] p with
  | true =>
    rw [ringN_sum (by simp [ringE]) h, ringN_sum (by simp [ringE]) (by rw [hC]; exact h)]
    simp only [ringE, List.zip_cons_cons, List.zip_nil_left, List.zip_nil_right, List.tail_cons, List.take_succ_cons, List.take_zero, List.cons_append, List.nil_append, List.map_cons, List.map_nil, List.sum_cons, List.sum_nil]
    omega
  | false => unfold ringN; rw [hC, h]; rfl
theorem rings4 (b0 b1 b2 b3 : Box) (q0 q1 q2 q3 p : Pt) (hb0 : b0.proper = true) (hb1 : b1.proper = true) (hb2 : b2.proper = true) (hb3 : b3.proper = true) (hq0 : b0.has q0) (hq1 : b1.has q1) (hq2 : b2.has q2) (hq3 : b3.has q3) (h : ringC [b0, b1, b2, b3] p = true) : ringC [b3, b2, b1, b0] p = true ∧ ringN [b3, b2, b1, b0] p = w64 (0 - ringN [b0, b1, b2, b3] p) ∧ ringC [q0.low b0, q1.low b1, q2.low b2, q3.low b3] p = true ∧ ringN [q0.low b0, q1.low b1, q2.low b2, q3.low b3] p = ringN [b0, b1, b2, b3] p ∧ ringC [q0.dot, q1.dot, q2.dot, q3.dot] p = true ∧ ringN [q0.dot, q1.dot, q2.dot, q3.dot] p = ringN [b0, b1, b2, b3] p := by
  obtain ⟨ho, he⟩ := ringC_ok h
  obtain ⟨_, _, hv, _⟩ := ringOk_iff.1 ho
  have c01 := he (b0, b1) (by simp [ringE])
  have c12 := he (b1, b2) (by simp [ringE])
  have c23 := he (b2, b3) (by simp [ringE])
  have c30 := he (b3, b0) (by simp [ringE])
  obtain ⟨lp0, ls0, dp0, ds0, _⟩ := low_proper hb0 hq0
  obtain ⟨lp1, ls1, dp1, ds1, _⟩ := low_proper hb1 hq1
  obtain ⟨lp2, ls2, dp2, ds2, _⟩ := low_proper hb2 hq2
  obtain ⟨lp3, ls3, dp3, ds3, _⟩ := low_proper hb3 hq3
  obtain ⟨r01, t01⟩ := edge_rev hb0 hb1 hv
  have t01 := t01 c01
  rw [c01] at r01
  obtain ⟨s01, u01⟩ := edge_small hb0 hb1 lp0 lp1 hv ls0 ls1 c01
  obtain ⟨v01, w01⟩ := edge_small hb0 hb1 dp0 dp1 hv ds0 ds1 c01
  obtain ⟨r12, t12⟩ := edge_rev hb1 hb2 hv
  have t12 := t12 c12
  rw [c12] at r12
  obtain ⟨s12, u12⟩ := edge_small hb1 hb2 lp1 lp2 hv ls1 ls2 c12
  obtain ⟨v12, w12⟩ := edge_small hb1 hb2 dp1 dp2 hv ds1 ds2 c12
  obtain ⟨r23, t23⟩ := edge_rev hb2 hb3 hv
  have t23 := t23 c23
  rw [c23] at r23
  obtain ⟨s23, u23⟩ := edge_small hb2 hb3 lp2 lp3 hv ls2 ls3 c23
  obtain ⟨v23, w23⟩ := edge_small hb2 hb3 dp2 dp3 hv ds2 ds3 c23
  obtain ⟨r30, t30⟩ := edge_rev hb3 hb0 hv
  have t30 := t30 c30
  rw [c30] at r30
  obtain ⟨s30, u30⟩ := edge_small hb3 hb0 lp3 lp0 hv ls3 ls0 c30
  obtain ⟨v30, w30⟩ := edge_small hb3 hb0 dp3 dp0 hv ds3 ds0 c30
  have hT : ringC [b3, b2, b1, b0] p = true := by
    refine ringC_of (ringOk_iff.2 ⟨by simp, by simp, hv, fun b hb => ?_⟩) fun e he => ?_
    · simp only [List.mem_cons, List.not_mem_nil, or_false] at hb
      rcases hb with rfl | rfl | rfl | rfl <;> assumption
    · simp only [ringE, List.zip_cons_cons, List.zip_nil_left, List.zip_nil_right, List.tail_cons, List.take_succ_cons, List.take_zero, List.cons_append, List.nil_append, List.mem_cons, List.not_mem_nil, or_false] at he
      rcases he with rfl | rfl | rfl | rfl <;> assumption
  have hS : ringC [q0.low b0, q1.low b1, q2.low b2, q3.low b3] p = true := by
    refine ringC_of (ringOk_iff.2 ⟨by simp, by simp, hv, fun b hb => ?_⟩) fun e he => ?_
    · simp only [List.mem_cons, List.not_mem_nil, or_false] at hb
      rcases hb with rfl | rfl | rfl | rfl <;> assumption
    · simp only [ringE, List.zip_cons_cons, List.zip_nil_left, List.zip_nil_right, List.tail_cons, List.take_succ_cons, List.take_zero, List.cons_append, List.nil_append, List.mem_cons, List.not_mem_nil, or_false] at he
      rcases he with rfl | rfl | rfl | rfl <;> assumption
  have hD : ringC [q0.dot, q1.dot, q2.dot, q3.dot] p = true := by
    refine ringC_of (ringOk_iff.2 ⟨by simp, by simp, hv, fun b hb => ?_⟩) fun e he => ?_
    · simp only [List.mem_cons, List.not_mem_nil, or_false] at hb
      rcases hb with rfl | rfl | rfl | rfl <;> assumption
    · simp only [ringE, List.zip_cons_cons, List.zip_nil_left, List.zip_nil_right, List.tail_cons, List.take_succ_cons, List.take_zero, List.cons_append, List.nil_append, List.mem_cons, List.not_mem_nil, or_false] at he
      rcases he with rfl | rfl | rfl | rfl <;> assumption
  have nL := ringN_sum (l := [b0, b1, b2, b3]) (p := p) (by simp [ringE]) h
  have nT := ringN_sum (l := [b3, b2, b1, b0]) (p := p) (by simp [ringE]) hT
  have nS := ringN_sum (l := [q0.low b0, q1.low b1, q2.low b2, q3.low b3]) (p := p) (by simp [ringE]) hS
  have nD := ringN_sum (l := [q0.dot, q1.dot, q2.dot, q3.dot]) (p := p) (by simp [ringE]) hD
  simp only [ringE, List.zip_cons_cons, List.zip_nil_left, List.zip_nil_right, List.tail_cons, List.take_succ_cons, List.take_zero, List.cons_append, List.nil_append, List.map_cons, List.map_nil, List.sum_cons, List.sum_nil] at nL nT nS nD
  have := edgeN_bd b0 b1 p
  have := edgeN_bd b1 b2 p
  have := edgeN_bd b2 b3 p
  have := edgeN_bd b3 b0 p
  refine ⟨hT, ?_, hS, ?_, hD, ?_⟩
  · rw [w64_id (by omega) (by omega)]; omega
  · omega
  · omega
theorem winds4 (q0 q1 q2 q3 p : Pt) (h : ringC [q0.dot, q1.dot, q2.dot, q3.dot] p = true) : alongB [q0, q1, q2, q3] p = false ∧ windN [q0, q1, q2, q3] p = ringN [q0.dot, q1.dot, q2.dot, q3.dot] p ∧ p.valid = true ∧ q0.valid = true ∧ q1.valid = true ∧ q2.valid = true ∧ q3.valid = true := by
  obtain ⟨ho, he⟩ := ringC_ok h
  obtain ⟨_, _, hv, hpr⟩ := ringOk_iff.1 ho
  have v0 : q0.valid = true := by rw [← dot_proper]; exact hpr _ (by simp)
  have v1 : q1.valid = true := by rw [← dot_proper]; exact hpr _ (by simp)
  have v2 : q2.valid = true := by rw [← dot_proper]; exact hpr _ (by simp)
  have v3 : q3.valid = true := by rw [← dot_proper]; exact hpr _ (by simp)
  obtain ⟨a01, w01⟩ := edge_dot v0 v1 hv (he (q0.dot, q1.dot) (by simp [ringE]))
  obtain ⟨a12, w12⟩ := edge_dot v1 v2 hv (he (q1.dot, q2.dot) (by simp [ringE]))
  obtain ⟨a23, w23⟩ := edge_dot v2 v3 hv (he (q2.dot, q3.dot) (by simp [ringE]))
  obtain ⟨a30, w30⟩ := edge_dot v3 v0 hv (he (q3.dot, q0.dot) (by simp [ringE]))
  refine ⟨?_, ?_, hv, v0, v1, v2, v3⟩
  · simp [alongB, ptsE, *]
  · rw [ringN_sum (l := [q0.dot, q1.dot, q2.dot, q3.dot]) (p := p) (by simp [ringE]) h, windN_sum (by simp [ptsE])]
    simp only [ptsE, ringE, List.zip_cons_cons, List.zip_nil_left, List.zip_nil_right, List.tail_cons, List.take_succ_cons, List.take_zero, List.cons_append, List.nil_append, List.map_cons, List.map_nil, List.sum_cons, List.sum_nil, *]
theorem rot4_1 (b0 b1 b2 b3 : Box) (p : Pt) : ringC [b1, b2, b3, b0] p = ringC [b0, b1, b2, b3] p ∧ ringN [b1, b2, b3, b0] p = ringN [b0, b1, b2, b3] p := by
  have hC : ringC [b1, b2, b3, b0] p = ringC [b0, b1, b2, b3] p := by
    rw [Bool.eq_iff_iff]
    constructor <;> intro h <;> obtain ⟨ho, he⟩ := ringC_ok h <;> obtain ⟨_, _, hv, hpr⟩ := ringOk_iff.1 ho <;> refine ringC_of (ringOk_iff.2 ⟨by simp, by simp, hv, fun b hb => hpr b ?_⟩) fun e hm => he e ?_ <;> simp only [ringE, List.zip_cons_cons, List.zip_nil_left, List.zip_nil_right, List.tail_cons, List.take_succ_cons, List.take_zero, List.cons_append, List.nil_append, List.mem_cons, List.not_mem_nil, or_false] at * <;> grind
  refine ⟨hC, ?_⟩
  cases h : ringC [b0, b1, b2, b3] p with
  | true =>
    rw [ringN_sum (by simp [ringE]) h, ringN_sum (by simp [ringE]) (by rw [hC]; exact h)]
    simp only [ringE, List.zip_cons_cons, List.zip_nil_left, List.zip_nil_right, List.tail_cons, List.take_succ_cons, List.take_zero, List.cons_append, List.nil_append, List.map_cons, List.map_nil, List.sum_cons, List.sum_nil]
    omega
  | false => unfold ringN; rw [hC, h]; rfl
theorem rot4_2 (b0 b1 b2 b3 : Box) (p : Pt) : ringC [b2, b3, b0, b1] p = ringC [b0, b1, b2, b3] p ∧ ringN [b2, b3, b0, b1] p = ringN [b0, b1, b2, b3] p := by
  have hC : ringC [b2, b3, b0, b1] p = ringC [b0, b1, b2, b3] p := by
    rw [Bool.eq_iff_iff]
    constructor <;> intro h <;> obtain ⟨ho, he⟩ := ringC_ok h <;> obtain ⟨_, _, hv, hpr⟩ := ringOk_iff.1 ho <;> refine ringC_of (ringOk_iff.2 ⟨by simp, by simp, hv, fun b hb => hpr b ?_⟩) fun e hm => he e ?_ <;> simp only [ringE, List.zip_cons_cons, List.zip_nil_left, List.zip_nil_right, List.tail_cons, List.take_succ_cons, List.take_zero, List.cons_append, List.nil_append, List.mem_cons, List.not_mem_nil, or_false] at * <;> grind
  refine ⟨hC, ?_⟩
  cases h : ringC [b0, b1, b2, b3] p with
  | true =>
    rw [ringN_sum (by simp [ringE]) h, ringN_sum (by simp [ringE]) (by rw [hC]; exact h)]
    simp only [ringE, List.zip_cons_cons, List.zip_nil_left, List.zip_nil_right, List.tail_cons, List.take_succ_cons, List.take_zero, List.cons_append, List.nil_append, List.map_cons, List.map_nil, List.sum_cons, List.sum_nil]
    omega
  | false => unfold ringN; rw [hC, h]; rfl
theorem rot4_3 (b0 b1 b2 b3 : Box) (p : Pt) : ringC [b3, b0, b1, b2] p = ringC [b0, b1, b2, b3] p ∧ ringN [b3, b0, b1, b2] p = ringN [b0, b1, b2, b3] p := by
  have hC : ringC [b3, b0, b1, b2] p = ringC [b0, b1, b2, b3] p := by
    rw [Bool.eq_iff_iff]
    constructor <;> intro h <;> obtain ⟨ho, he⟩ := ringC_ok h <;> obtain ⟨_, _, hv, hpr⟩ := ringOk_iff.1 ho <;> refine ringC_of (ringOk_iff.2 ⟨by simp, by simp, hv, fun b hb => hpr b ?_⟩) fun e hm => he e ?_ <;> simp only [ringE, List.zip_cons_cons, List.zip_nil_left, List.zip_nil_right, List.tail_cons, List.take_succ_cons, List.take_zero, List.cons_append, List.nil_append, List.mem_cons, List.not_mem_nil, or_false] at * <;> grind
  refine ⟨hC, ?_⟩
  cases h : ringC [b0, b1, b2, b3] p with
  | true =>
    rw [ringN_sum (by simp [ringE]) h, ringN_sum (by simp [ringE]) (by rw [hC]; exact h)]
    simp only [ringE, List.zip_cons_cons, List.zip_nil_left, List.zip_nil_right, List.tail_cons, List.take_succ_cons, List.take_zero, List.cons_append, List.nil_append, List.map_cons, List.map_nil, List.sum_cons, List.sum_nil]
    omega
  | false => unfold ringN; rw [hC, h]; rfl
theorem rings5 (b0 b1 b2 b3 b4 : Box) (q0 q1 q2 q3 q4 p : Pt) (hb0 : b0.proper = true) (hb1 : b1.proper = true) (hb2 : b2.proper = true) (hb3 : b3.proper = true) (hb4 : b4.proper = true) (hq0 : b0.has q0) (hq1 : b1.has q1) (hq2 : b2.has q2) (hq3 : b3.has q3) (hq4 : b4.has q4) (h : ringC [b0, b1, b2, b3, b4] p = true) : ringC [b4, b3, b2, b1, b0] p = true ∧ ringN [b4, b3, b2, b1, b0] p = w64 (0 - ringN [b0, b1, b2, b3, b4] p) ∧ ringC [q0.low b0, q1.low b1, q2.low b2, q3.low b3, q4.low b4] p = true ∧ ringN [q0.low b0, q1.low b1, q2.low b2, q3.low b3, q4.low b4] p = ringN [b0, b1, b2, b3, b4] p ∧ ringC [q0.dot, q1.dot, q2.dot, q3.dot, q4.dot] p = true ∧ ringN [q0.dot, q1.dot, q2.dot, q3.dot, q4.dot] p = ringN [b0, b1, b2, b3, b4] p := by
  obtain ⟨ho, he⟩ := ringC_ok h
  obtain ⟨_, _, hv, _⟩ := ringOk_iff.1 ho
  have c01 := he (b0, b1) (by simp [ringE])
  have c12 := he (b1, b2) (by simp [ringE])
  have c23 := he (b2, b3) (by simp [ringE])
  have c34 := he (b3, b4) (by simp [ringE])
  have c40 := he (b4, b0) (by simp [ringE])
  obtain ⟨lp0, ls0, dp0, ds0, _⟩ := low_proper hb0 hq0
  obtain ⟨lp1, ls1, dp1, ds1, _⟩ := low_proper hb1 hq1
  obtain ⟨lp2, ls2, dp2, ds2, _⟩ := low_proper hb2 hq2
  obtain ⟨lp3, ls3, dp3, ds3, _⟩ := low_proper hb3 hq3
  obtain ⟨lp4, ls4, dp4, ds4, _⟩ := low_proper hb4 hq4
  obtain ⟨r01, t01⟩ := edge_rev hb0 hb1 hv
  have t01 := t01 c01
  rw [c01] at r01
  obtain ⟨s01, u01⟩ := edge_small hb0 hb1 lp0 lp1 hv ls0 ls1 c01
  obtain ⟨v01, w01⟩ := edge_small hb0 hb1 dp0 dp1 hv ds0 ds1 c01
  obtain ⟨r12, t12⟩ := edge_rev hb1 hb2 hv
  have t12 := t12 c12
  rw [c12] at r12
  obtain ⟨s12, u12⟩ := edge_small hb1 hb2 lp1 lp2 hv ls1 ls2 c12
  obtain ⟨v12, w12⟩ := edge_small hb1 hb2 dp1 dp2 hv ds1 ds2 c12
  obtain ⟨r23, t23⟩ := edge_rev hb2 hb3 hv
  have t23 := t23 c23
  rw [c23] at r23
  obtain ⟨s23, u23⟩ := edge_small hb2 hb3 lp2 lp3 hv ls2 ls3 c23
  obtain ⟨v23, w23⟩ := edge_small hb2 hb3 dp2 dp3 hv ds2 ds3 c23
  obtain ⟨r34, t34⟩ := edge_rev hb3 hb4 hv
  have t34 := t34 c34
  rw [c34] at r34
  obtain ⟨s34, u34⟩ := edge_small hb3 hb4 lp3 lp4 hv ls3 ls4 c34
  obtain ⟨v34, w34⟩ := edge_small hb3 hb4 dp3 dp4 hv ds3 ds4 c34
  obtain ⟨r40, t40⟩ := edge_rev hb4 hb0 hv
  have t40 := t40 c40
  rw [c40] at r40
  obtain ⟨s40, u40⟩ := edge_small hb4 hb0 lp4 lp0 hv ls4 ls0 c40
  obtain ⟨v40, w40⟩ := edge_small hb4 hb0 dp4 dp0 hv ds4 ds0 c40
  have hT : ringC [b4, b3, b2, b1, b0] p = true := by
    refine ringC_of (ringOk_iff.2 ⟨by simp, by simp, hv, fun b hb => ?_⟩) fun e he => ?_
    · simp only [List.mem_cons, List.not_mem_nil, or_false] at hb
      rcases hb with rfl | rfl | rfl | rfl | rfl <;> assumption
    · simp only [ringE, List.zip_cons_cons, List.zip_nil_left, List.zip_nil_right, List.tail_cons, List.take_succ_cons, List.take_zero, List.cons_append, List.nil_append, List.mem_cons, List.not_mem_nil, or_false] at he
      rcases he with rfl | rfl | rfl | rfl | rfl <;> assumption
  have hS : ringC [q0.low b0, q1.low b1, q2.low b2, q3.low b3, q4.low b4] p = true := by
    refine ringC_of (ringOk_iff.2 ⟨by simp, by simp, hv, fun b hb => ?_⟩) fun e he => ?_
    · simp only [List.mem_cons, List.not_mem_nil, or_false] at hb
      rcases hb with rfl | rfl | rfl | rfl | rfl <;> assumption
    · simp only [ringE, List.zip_cons_cons, List.zip_nil_left, List.zip_nil_right, List.tail_cons, List.take_succ_cons, List.take_zero, List.cons_append, List.nil_append, List.mem_cons, List.not_mem_nil, or_false] at he
      rcases he with rfl | rfl | rfl | rfl | rfl <;> assumption
  have hD : ringC [q0.dot, q1.dot, q2.dot, q3.dot, q4.dot] p = true := by
    refine ringC_of (ringOk_iff.2 ⟨by simp, by simp, hv, fun b hb => ?_⟩) fun e he => ?_
    · simp only [List.mem_cons, List.not_mem_nil, or_false] at hb
      rcases hb with rfl | rfl | rfl | rfl | rfl <;> assumption
    · simp only [ringE, List.zip_cons_cons, List.zip_nil_left, List.zip_nil_right, List.tail_cons, List.take_succ_cons, List.take_zero, List.cons_append, List.nil_append, List.mem_cons, List.not_mem_nil, or_false] at he
      rcases he with rfl | rfl | rfl | rfl | rfl <;> assumption
  have nL := ringN_sum (l := [b0, b1, b2, b3, b4]) (p := p) (by simp [ringE]) h
  have nT := ringN_sum (l := [b4, b3, b2, b1, b0]) (p := p) (by simp [ringE]) hT
  have nS := ringN_sum (l := [q0.low b0, q1.low b1, q2.low b2, q3.low b3, q4.low b4]) (p := p) (by simp [ringE]) hS
  have nD := ringN_sum (l := [q0.dot, q1.dot, q2.dot, q3.dot, q4.dot]) (p := p) (by simp [ringE]) hD
  simp only [ringE, List.zip_cons_cons, List.zip_nil_left, List.zip_nil_right, List.tail_cons, List.take_succ_cons, List.take_zero, List.cons_append, List.nil_append, List.map_cons, List.map_nil, List.sum_cons, List.sum_nil] at nL nT nS nD
  have := edgeN_bd b0 b1 p
  have := edgeN_bd b1 b2 p
  have := edgeN_bd b2 b3 p
  have := edgeN_bd b3 b4 p
  have := edgeN_bd b4 b0 p
  refine ⟨hT, ?_, hS, ?_, hD, ?_⟩
  · rw [w64_id (by omega) (by omega)]; omega
  · omega
  · omega
theorem winds5 (q0 q1 q2 q3 q4 p : Pt) (h : ringC [q0.dot, q1.dot, q2.dot, q3.dot, q4.dot] p = true) : alongB [q0, q1, q2, q3, q4] p = false ∧ windN [q0, q1, q2, q3, q4] p = ringN [q0.dot, q1.dot, q2.dot, q3.dot, q4.dot] p ∧ p.valid = true ∧ q0.valid = true ∧ q1.valid = true ∧ q2.valid = true ∧ q3.valid = true ∧ q4.valid = true := by
  obtain ⟨ho, he⟩ := ringC_ok h
  obtain ⟨_, _, hv, hpr⟩ := ringOk_iff.1 ho
  have v0 : q0.valid = true := by rw [← dot_proper]; exact hpr _ (by simp)
  have v1 : q1.valid = true := by rw [← dot_proper]; exact hpr _ (by simp)
  have v2 : q2.valid = true := by rw [← dot_proper]; exact hpr _ (by simp)
  have v3 : q3.valid = true := by rw [← dot_proper]; exact hpr _ (by simp)
  have v4 : q4.valid = true := by rw [← dot_proper]; exact hpr _ (by simp)
  obtain ⟨a01, w01⟩ := edge_dot v0 v1 hv (he (q0.dot, q1.dot) (by simp [ringE]))
  obtain ⟨a12, w12⟩ := edge_dot v1 v2 hv (he (q1.dot, q2.dot) (by simp [ringE]))
  obtain ⟨a23, w23⟩ := edge_dot v2 v3 hv (he (q2.dot, q3.dot) (by simp [ringE]))
  obtain ⟨a34, w34⟩ := edge_dot v3 v4 hv (he (q3.dot, q4.dot) (by simp [ringE]))
  obtain ⟨a40, w40⟩ := edge_dot v4 v0 hv (he (q4.dot, q0.dot) (by simp [ringE]))
  refine ⟨?_, ?_, hv, v0, v1, v2, v3, v4⟩
  · simp [alongB, ptsE, *]
  · rw [ringN_sum (l := [q0.dot, q1.dot, q2.dot, q3.dot, q4.dot]) (p := p) (by simp [ringE]) h, windN_sum (by simp [ptsE])]
    simp only [ptsE, ringE, List.zip_cons_cons, List.zip_nil_left, List.zip_nil_right, List.tail_cons, List.take_succ_cons, List.take_zero, List.cons_append, List.nil_append, List.map_cons, List.map_nil, List.sum_cons, List.sum_nil, *]
theorem rot5_1 (b0 b1 b2 b3 b4 : Box) (p : Pt) : ringC [b1, b2, b3, b4, b0] p = ringC [b0, b1, b2, b3, b4] p ∧ ringN [b1, b2, b3, b4, b0] p = ringN [b0, b1, b2, b3, b4] p := by
  have hC : ringC [b1, b2, b3, b4, b0] p = ringC [b0, b1, b2, b3, b4] p := by
    rw [Bool.eq_iff_iff]
    constructor <;> intro h <;> obtain ⟨ho, he⟩ := ringC_ok h <;> obtain ⟨_, _, hv, hpr⟩ := ringOk_iff.1 ho <;> refine ringC_of (ringOk_iff.2 ⟨by simp, by simp, hv, fun b hb => hpr b ?_⟩) fun e hm => he e ?_ <;> simp only [ringE, List.zip_cons_cons, List.zip_nil_left, List.zip_nil_right, List.tail_cons, List.take_succ_cons, List.take_zero, List.cons_append, List.nil_append, List.mem_cons, List.not_mem_nil, or_false] at * <;> grind
  refine ⟨hC, ?_⟩
  cases h : ringC [b0, b1, b2, b3, b4] p with
  | true =>
    rw [ringN_sum (by simp [ringE]) h, ringN_sum (by simp [ringE]) (by rw [hC]; exact h)]
    simp only [ringE, List.zip_cons_cons, List.zip_nil_left, List.zip_nil_right, List.tail_cons, List.take_succ_cons, List.take_zero, List.cons_append, List.nil_append, List.map_cons, List.map_nil, List.sum_cons, List.sum_nil]
    omega
  | false => unfold ringN; rw [hC, h]; rfl
theorem rot5_2 (b0 b1 b2 b3 b4 : Box) (p : Pt) : ringC [b2, b3, b4, b0, b1] p = ringC [b0, b1, b2, b3, b4] p ∧ ringN [b2, b3, b4, b0, b1] p = ringN [b0, b1, b2, b3, b4] p := by
  have hC : ringC [b2, b3, b4, b0, b1] p = ringC [b0, b1, b2, b3, b4] p := by
    rw [Bool.eq_iff_iff]
    constructor <;> intro h <;> obtain ⟨ho, he⟩ := ringC_ok h <;> obtain ⟨_, _, hv, hpr⟩ := ringOk_iff.1 ho <;> refine ringC_of (ringOk_iff.2 ⟨by simp, by simp, hv, fun b hb => hpr b ?_⟩) fun e hm => he e ?_ <;> simp only [ringE, List.zip_cons_cons, List.zip_nil_left, List.zip_nil_right, List.tail_cons, List.take_succ_cons, List.take_zero, List.cons_append, List.nil_append, List.mem_cons, List.not_mem_nil, or_false] at * <;> grind
  refine ⟨hC, ?_⟩
  cases h : ringC [b0, b1, b2, b3, b4] p with
  | true =>
    rw [ringN_sum (by simp [ringE]) h, ringN_sum (by simp [ringE]) (by rw [hC]; exact h)]
    simp only [ringE, List.zip_cons_cons, List.zip_nil_left, List.zip_nil_right, List.tail_cons, List.take_succ_cons, List.take_zero, List.cons_append, List.nil_append, List.map_cons, List.map_nil, List.sum_cons, List.sum_nil]
    omega
  | false => unfold ringN; rw [hC, h]; rfl
theorem rot5_3 (b0 b1 b2 b3 b4 : Box) (p : Pt) : ringC [b3, b4, b0, b1, b2] p = ringC [b0, b1, b2, b3, b4] p ∧ ringN [b3, b4, b0, b1, b2] p = ringN [b0, b1, b2, b3, b4] p := by
  have hC : ringC [b3, b4, b0, b1, b2] p = ringC [b0, b1, b2, b3, b4] p := by
    rw [Bool.eq_iff_iff]
    constructor <;> intro h <;> obtain ⟨ho, he⟩ := ringC_ok h <;> obtain ⟨_, _, hv, hpr⟩ := ringOk_iff.1 ho <;> refine ringC_of (ringOk_iff.2 ⟨by simp, by simp, hv, fun b hb => hpr b ?_⟩) fun e hm => he e ?_ <;> simp only [ringE, List.zip_cons_cons, List.zip_nil_left, List.zip_nil_right, List.tail_cons, List.take_succ_cons, List.take_zero, List.cons_append, List.nil_append, List.mem_cons, List.not_mem_nil, or_false] at * <;> grind
  refine ⟨hC, ?_⟩
  cases h : ringC [b0, b1, b2, b3, b4] p with
  | true =>
    rw [ringN_sum (by simp [ringE]) h, ringN_sum (by simp [ringE]) (by rw [hC]; exact h)]
    simp only [ringE, List.zip_cons_cons, List.zip_nil_left, List.zip_nil_right, List.tail_cons, List.take_succ_cons, List.take_zero, List.cons_append, List.nil_append, List.map_cons, List.map_nil, List.sum_cons, List.sum_nil]
    omega
  | false => unfold ringN; rw [hC, h]; rfl
theorem rot5_4 (b0 b1 b2 b3 b4 : Box) (p : Pt) : ringC [b4, b0, b1, b2, b3] p = ringC [b0, b1, b2, b3, b4] p ∧ ringN [b4, b0, b1, b2, b3] p = ringN [b0, b1, b2, b3, b4] p := by
  have hC : ringC [b4, b0, b1, b2, b3] p = ringC [b0, b1, b2, b3, b4] p := by
    rw [Bool.eq_iff_iff]
    constructor <;> intro h <;> obtain ⟨ho, he⟩ := ringC_ok h <;> obtain ⟨_, _, hv, hpr⟩ := ringOk_iff.1 ho <;> refine ringC_of (ringOk_iff.2 ⟨by simp, by simp, hv, fun b hb => hpr b ?_⟩) fun e hm => he e ?_ <;> simp only [ringE, List.zip_cons_cons, List.zip_nil_left, List.zip_nil_right, List.tail_cons, List.take_succ_cons, List.take_zero, List.cons_append, List.nil_append, List.mem_cons, List.not_mem_nil, or_false] at * <;> grind
  refine ⟨hC, ?_⟩
  cases h : ringC [b0, b1, b2, b3, b4] p with
  | true =>
    rw [ringN_sum (by simp [ringE]) h, ringN_sum (by simp [ringE]) (by rw [hC]; exact h)]
    simp only [ringE, List.zip_cons_cons, List.zip_nil_left, List.zip_nil_right, List.tail_cons, List.take_succ_cons, List.take_zero, List.cons_append, List.nil_append, List.map_cons, List.map_nil, List.sum_cons, List.sum_nil]
    omega
  | false => unfold ringN; rw [hC, h]; rfl
theorem rings6 (b0 b1 b2 b3 b4 b5 : Box) (q0 q1 q2 q3 q4 q5 p : Pt) (hb0 : b0.proper = true) (hb1 : b1.proper = true) (hb2 : b2.proper = true) (hb3 : b3.proper = true) (hb4 : b4.proper = true) (hb5 : b5.proper = true) (hq0 : b0.has q0) (hq1 : b1.has q1) (hq2 : b2.has q2) (hq3 : b3.has q3) (hq4 : b4.has q4) (hq5 : b5.has q5) (h : ringC [b0, b1, b2, b3, b4, b5] p = true) : ringC [b5, b4, b3, b2, b1, b0] p = true ∧ ringN [b5, b4, b3, b2, b1, b0] p = w64 (0 - ringN [b0, b1, b2, b3, b4, b5] p) ∧ ringC [q0.low b0, q1.low b1, q2.low b2, q3.low b3, q4.low b4, q5.low b5] p = true ∧ ringN [q0.low b0, q1.low b1, q2.low b2, q3.low b3, q4.low b4, q5.low b5] p = ringN [b0, b1, b2, b3, b4, b5] p ∧ ringC [q0.dot, q1.dot, q2.dot, q3.dot, q4.dot, q5.dot] p = true ∧ ringN [q0.dot, q1.dot, q2.dot, q3.dot, q4.dot, q5.dot] p = ringN [b0, b1, b2, b3, b4, b5] p := by
  obtain ⟨ho, he⟩ := ringC_ok h
  obtain ⟨_, _, hv, _⟩ := ringOk_iff.1 ho
  have c01 := he (b0, b1) (by simp [ringE])
  have c12 := he (b1, b2) (by simp [ringE])
  have c23 := he (b2, b3) (by simp [ringE])
  have c34 := he (b3, b4) (by simp [ringE])
  have c45 := he (b4, b5) (by simp [ringE])
  have c50 := he (b5, b0) (by simp [ringE])
  obtain ⟨lp0, ls0, dp0, ds0, _⟩ := low_proper hb0 hq0
  obtain ⟨lp1, ls1, dp1, ds1, _⟩ := low_proper hb1 hq1
  obtain ⟨lp2, ls2, dp2, ds2, _⟩ := low_proper hb2 hq2
  obtain ⟨lp3, ls3, dp3, ds3, _⟩ := low_proper hb3 hq3
  obtain ⟨lp4, ls4, dp4, ds4, _⟩ := low_proper hb4 hq4
  obtain ⟨lp5, ls5, dp5, ds5, _⟩ := low_proper hb5 hq5
  obtain ⟨r01, t01⟩ := edge_rev hb0 hb1 hv
  have t01 := t01 c01
  rw [c01] at r01
  obtain ⟨s01, u01⟩ := edge_small hb0 hb1 lp0 lp1 hv ls0 ls1 c01
  obtain ⟨v01, w01⟩ := edge_small hb0 hb1 dp0 dp1 hv ds0 ds1 c01
  obtain ⟨r12, t12⟩ := edge_rev hb1 hb2 hv
  have t12 := t12 c12
  rw [c12] at r12
  obtain ⟨s12, u12⟩ := edge_small hb1 hb2 lp1 lp2 hv ls1 ls2 c12
  obtain ⟨v12, w12⟩ := edge_small hb1 hb2 dp1 dp2 hv ds1 ds2 c12
  obtain ⟨r23, t23⟩ := edge_rev hb2 hb3 hv
  have t23 := t23 c23
  rw [c23] at r23
  obtain ⟨s23, u23⟩ := edge_small hb2 hb3 lp2 lp3 hv ls2 ls3 c23
  obtain ⟨v23, w23⟩ := edge_small hb2 hb3 dp2 dp3 hv ds2 ds3 c23
  obtain ⟨r34, t34⟩ := edge_rev hb3 hb4 hv
  have t34 := t34 c34
  rw [c34] at r34
  obtain ⟨s34, u34⟩ := edge_small hb3 hb4 lp3 lp4 hv ls3 ls4 c34
  obtain ⟨v34, w34⟩ := edge_small hb3 hb4 dp3 dp4 hv ds3 ds4 c34
  obtain ⟨r45, t45⟩ := edge_rev hb4 hb5 hv
  have t45 := t45 c45
  rw [c45] at r45
  obtain ⟨s45, u45⟩ := edge_small hb4 hb5 lp4 lp5 hv ls4 ls5 c45
  obtain ⟨v45, w45⟩ := edge_small hb4 hb5 dp4 dp5 hv ds4 ds5 c45
  obtain ⟨r50, t50⟩ := edge_rev hb5 hb0 hv
  have t50 := t50 c50
  rw [c50] at r50
  obtain ⟨s50, u50⟩ := edge_small hb5 hb0 lp5 lp0 hv ls5 ls0 c50
  obtain ⟨v50, w50⟩ := edge_small hb5 hb0 dp5 dp0 hv ds5 ds0 c50
  have hT : ringC [b5, b4, b3, b2, b1, b0] p = true := by
    refine ringC_of (ringOk_iff.2 ⟨by simp, by simp, hv, fun b hb => ?_⟩) fun e he => ?_
    · simp only [List.mem_cons, List.not_mem_nil, or_false] at hb
      rcases hb with rfl | rfl | rfl | rfl | rfl | rfl <;> assumption
    · simp only [ringE, List.zip_cons_cons, List.zip_nil_left, List.zip_nil_right, List.tail_cons, List.take_succ_cons, List.take_zero, List.cons_append, List.nil_append, List.mem_cons, List.not_mem_nil, or_false] at he
      rcases he with rfl | rfl | rfl | rfl | rfl | rfl <;> assumption
  have hS : ringC [q0.low b0, q1.low b1, q2.low b2, q3.low b3, q4.low b4, q5.low b5] p = true := by
    refine ringC_of (ringOk_iff.2 ⟨by simp, by simp, hv, fun b hb => ?_⟩) fun e he => ?_
    · simp only [List.mem_cons, List.not_mem_nil, or_false] at hb
      rcases hb with rfl | rfl | rfl | rfl | rfl | rfl <;> assumption
    · simp only [ringE, List.zip_cons_cons, List.zip_nil_left, List.zip_nil_right, List.tail_cons, List.take_succ_cons, List.take_zero, List.cons_append, List.nil_append, List.mem_cons, List.not_mem_nil, or_false] at he
      rcases he with rfl | rfl | rfl | rfl | rfl | rfl <;> assumption
  have hD : ringC [q0.dot, q1.dot, q2.dot, q3.dot, q4.dot, q5.dot] p = true := by
    refine ringC_of (ringOk_iff.2 ⟨by simp, by simp, hv, fun b hb => ?_⟩) fun e he => ?_
    · simp only [List.mem_cons, List.not_mem_nil, or_false] at hb
      rcases hb with rfl | rfl | rfl | rfl | rfl | rfl <;> assumption
    · simp only [ringE, List.zip_cons_cons, List.zip_nil_left, List.zip_nil_right, List.tail_cons, List.take_succ_cons, List.take_zero, List.cons_append, List.nil_append, List.mem_cons, List.not_mem_nil, or_false] at he
      rcases he with rfl | rfl | rfl | rfl | rfl | rfl <;> assumption
  have nL := ringN_sum (l := [b0, b1, b2, b3, b4, b5]) (p := p) (by simp [ringE]) h
  have nT := ringN_sum (l := [b5, b4, b3, b2, b1, b0]) (p := p) (by simp [ringE]) hT
  have nS := ringN_sum (l := [q0.low b0, q1.low b1, q2.low b2, q3.low b3, q4.low b4, q5.low b5]) (p := p) (by simp [ringE]) hS
  have nD := ringN_sum (l := [q0.dot, q1.dot, q2.dot, q3.dot, q4.dot, q5.dot]) (p := p) (by simp [ringE]) hD
  simp only [ringE, List.zip_cons_cons, List.zip_nil_left, List.zip_nil_right, List.tail_cons, List.take_succ_cons, List.take_zero, List.cons_append, List.nil_append, List.map_cons, List.map_nil, List.sum_cons, List.sum_nil] at nL nT nS nD
  have := edgeN_bd b0 b1 p
  have := edgeN_bd b1 b2 p
  have := edgeN_bd b2 b3 p
  have := edgeN_bd b3 b4 p
  have := edgeN_bd b4 b5 p
  have := edgeN_bd b5 b0 p
  refine ⟨hT, ?_, hS, ?_, hD, ?_⟩
  · rw [w64_id (by omega) (by omega)]; omega
  · omega
  · omega
theorem winds6 (q0 q1 q2 q3 q4 q5 p : Pt) (h : ringC [q0.dot, q1.dot, q2.dot, q3.dot, q4.dot, q5.dot] p = true) : alongB [q0, q1, q2, q3, q4, q5] p = false ∧ windN [q0, q1, q2, q3, q4, q5] p = ringN [q0.dot, q1.dot, q2.dot, q3.dot, q4.dot, q5.dot] p ∧ p.valid = true ∧ q0.valid = true ∧ q1.valid = true ∧ q2.valid = true ∧ q3.valid = true ∧ q4.valid = true ∧ q5.valid = true := by
  obtain ⟨ho, he⟩ := ringC_ok h
  obtain ⟨_, _, hv, hpr⟩ := ringOk_iff.1 ho
  have v0 : q0.valid = true := by rw [← dot_proper]; exact hpr _ (by simp)
  have v1 : q1.valid = true := by rw [← dot_proper]; exact hpr _ (by simp)
  have v2 : q2.valid = true := by rw [← dot_proper]; exact hpr _ (by simp)
  have v3 : q3.valid = true := by rw [← dot_proper]; exact hpr _ (by simp)
  have v4 : q4.valid = true := by rw [← dot_proper]; exact hpr _ (by simp)
  have v5 : q5.valid = true := by rw [← dot_proper]; exact hpr _ (by simp)
  obtain ⟨a01, w01⟩ := edge_dot v0 v1 hv (he (q0.dot, q1.dot) (by simp [ringE]))
  obtain ⟨a12, w12⟩ := edge_dot v1 v2 hv (he (q1.dot, q2.dot) (by simp [ringE]))
  obtain ⟨a23, w23⟩ := edge_dot v2 v3 hv (he (q2.dot, q3.dot) (by simp [ringE]))
  obtain ⟨a34, w34⟩ := edge_dot v3 v4 hv (he (q3.dot, q4.dot) (by simp [ringE]))
  obtain ⟨a45, w45⟩ := edge_dot v4 v5 hv (he (q4.dot, q5.dot) (by simp [ringE]))
  obtain ⟨a50, w50⟩ := edge_dot v5 v0 hv (he (q5.dot, q0.dot) (by simp [ringE]))
  refine ⟨?_, ?_, hv, v0, v1, v2, v3, v4, v5⟩
  · simp [alongB, ptsE, *]
  · rw [ringN_sum (l := [q0.dot, q1.dot, q2.dot, q3.dot, q4.dot, q5.dot]) (p := p) (by simp [ringE]) h, windN_sum (by simp [ptsE])]
    simp only [ptsE, ringE, List.zip_cons_cons, List.zip_nil_left, List.zip_nil_right, List.tail_cons, List.take_succ_cons, List.take_zero, List.cons_append, List.nil_append, List.map_cons, List.map_nil, List.sum_cons, List.sum_nil, *]
theorem rot6_1 (b0 b1 b2 b3 b4 b5 : Box) (p : Pt) : ringC [b1, b2, b3, b4, b5, b0] p = ringC [b0, b1, b2, b3, b4, b5] p ∧ ringN [b1, b2, b3, b4, b5, b0] p = ringN [b0, b1, b2, b3, b4, b5] p := by
  have hC : ringC [b1, b2, b3, b4, b5, b0] p = ringC [b0, b1, b2, b3, b4, b5] p := by
    rw [Bool.eq_iff_iff]
    constructor <;> intro h <;> obtain ⟨ho, he⟩ := ringC_ok h <;> obtain ⟨_, _, hv, hpr⟩ := ringOk_iff.1 ho <;> refine ringC_of (ringOk_iff.2 ⟨by simp, by simp, hv, fun b hb => hpr b ?_⟩) fun e hm => he e ?_ <;> simp only [ringE, List.zip_cons_cons, List.zip_nil_left, List.zip_nil_right, List.tail_cons, List.take_succ_cons, List.take_zero, List.cons_append, List.nil_append, List.mem_cons, List.not_mem_nil, or_false] at * <;> grind
  refine ⟨hC, ?_⟩
  cases h : ringC [b0, b1, b2, b3, b4, b5] p with
  | true =>
    rw [ringN_sum (by simp [ringE]) h, ringN_sum (by simp [ringE]) (by rw [hC]; exact h)]
    simp only [ringE, List.zip_cons_cons, List.zip_nil_left, List.zip_nil_right, List.tail_cons, List.take_succ_cons, List.take_zero, List.cons_append, List.nil_append, List.map_cons, List.map_nil, List.sum_cons, List.sum_nil]
    omega
  | false => unfold ringN; rw [hC, h]; rfl
theorem rot6_2 (b0 b1 b2 b3 b4 b5 : Box) (p : Pt) : ringC [b2, b3, b4, b5, b0, b1] p = ringC [b0, b1, b2, b3, b4, b5] p ∧ ringN [b2, b3, b4, b5, b0, b1] p = ringN [b0, b1, b2, b3, b4, b5] p := by
  have hC : ringC [b2, b3, b4, b5, b0, b1] p = ringC [b0, b1, b2, b3, b4, b5] p := by
    rw [Bool.eq_iff_iff]
    constructor <;> intro h <;> obtain ⟨ho, he⟩ := ringC_ok h <;> obtain ⟨_, _, hv, hpr⟩ := ringOk_iff.1 ho <;> refine ringC_of (ringOk_iff.2 ⟨by simp, by simp, hv, fun b hb => hpr b ?_⟩) fun e hm => he e ?_ <;> simp only [ringE, List.zip_cons_cons, List.zip_nil_left, List.zip_nil_right, List.tail_cons, List.take_succ_cons, List.take_zero, List.cons_append, List.nil_append, List.mem_cons, List.not_mem_nil, or_false] at * <;> grind
  refine ⟨hC, ?_⟩
  cases h : ringC [b0, b1, b2, b3, b4, b5] p with
  | true =>
    rw [ringN_sum (by simp [ringE]) h, ringN_sum (by simp [ringE]) (by rw [hC]; exact h)]
    simp only [ringE, List.zip_cons_cons, List.zip_nil_left, List.zip_nil_right, List.tail_cons, List.take_succ_cons, List.take_zero, List.cons_append, List.nil_append, List.map_cons, List.map_nil, List.sum_cons, List.sum_nil]
    omega
  | false => unfold ringN; rw [hC, h]; rfl
theorem rot6_3 (b0 b1 b2 b3 b4 b5 : Box) (p : Pt) : ringC [b3, b4, b5, b0, b1, b2] p = ringC [b0, b1, b2, b3, b4, b5] p ∧ ringN [b3, b4, b5, b0, b1, b2] p = ringN [b0, b1, b2, b3, b4, b5] p := by
  have hC : ringC [b3, b4, b5, b0, b1, b2] p = ringC [b0, b1, b2, b3, b4, b5] p := by
    rw [Bool.eq_iff_iff]
    constructor <;> intro h <;> obtain ⟨ho, he⟩ := ringC_ok h <;> obtain ⟨_, _, hv, hpr⟩ := ringOk_iff.1 ho <;> refine ringC_of (ringOk_iff.2 ⟨by simp, by simp, hv, fun b hb => hpr b ?_⟩) fun e hm => he e ?_ <;> simp only [ringE, List.zip_cons_cons, List.zip_nil_left, List.zip_nil_right, List.tail_cons, List.take_succ_cons, List.take_zero, List.cons_append, List.nil_append, List.mem_cons, List.not_mem_nil, or_false] at * <;> grind
  refine ⟨hC, ?_⟩
  cases h : ringC [b0, b1, b2, b3, b4, b5] p with
  | true =>
    rw [ringN_sum (by simp [ringE]) h, ringN_sum (by simp [ringE]) (by rw [hC]; exact h)]
    simp only [ringE, List.zip_cons_cons, List.zip_nil_left, List.zip_nil_right, List.tail_cons, List.take_succ_cons, List.take_zero, List.cons_append, List.nil_append, List.map_cons, List.map_nil, List.sum_cons, List.sum_nil]
    omega
  | false => unfold ringN; rw [hC, h]; rfl
theorem rot6_4 (b0 b1 b2 b3 b4 b5 : Box) (p : Pt) : ringC [b4, b5, b0, b1, b2, b3] p = ringC [b0, b1, b2, b3, b4, b5] p ∧ ringN [b4, b5, b0, b1, b2, b3] p = ringN [b0, b1, b2, b3, b4, b5] p := by
  have hC : ringC [b4, b5, b0, b1, b2, b3] p = ringC [b0, b1, b2, b3, b4, b5] p := by
    rw [Bool.eq_iff_iff]
    constructor <;> intro h <;> obtain ⟨ho, he⟩ := ringC_ok h <;> obtain ⟨_, _, hv, hpr⟩ := ringOk_iff.1 ho <;> refine ringC_of (ringOk_iff.2 ⟨by simp, by simp, hv, fun b hb => hpr b ?_⟩) fun e hm => he e ?_ <;> simp only [ringE, List.zip_cons_cons, List.zip_nil_left, List.zip_nil_right, List.tail_cons, List.take_succ_cons, List.take_zero, List.cons_append, List.nil_append, List.mem_cons, List.not_mem_nil, or_false] at * <;> grind
  refine ⟨hC, ?_⟩
  cases h : ringC [b0, b1, b2, b3, b4, b5] p with
  | true =>
    rw [ringN_sum (by simp [ringE]) h, ringN_sum (by simp [ringE]) (by rw [hC]; exact h)]
    simp only [ringE, List.zip_cons_cons, List.zip_nil_left, List.zip_nil_right, List.tail_cons, List.take_succ_cons, List.take_zero, List.cons_append, List.nil_append, List.map_cons, List.map_nil, List.sum_cons, List.sum_nil]
    omega
  | false => unfold ringN; rw [hC, h]; rfl
theorem rot6_5 (b0 b1 b2 b3 b4 b5 : Box) (p : Pt) : ringC [b5, b0, b1, b2, b3, b4] p = ringC [b0, b1, b2, b3, b4, b5] p ∧ ringN [b5, b0, b1, b2, b3, b4] p = ringN [b0, b1, b2, b3, b4, b5] p := by
  have hC : ringC [b5, b0, b1, b2, b3, b4] p = ringC [b0, b1, b2, b3, b4, b5] p := by
    rw [Bool.eq_iff_iff]
    constructor <;> intro h <;> obtain ⟨ho, he⟩ := ringC_ok h <;> obtain ⟨_, _, hv, hpr⟩ := ringOk_iff.1 ho <;> refine ringC_of (ringOk_iff.2 ⟨by simp, by simp, hv, fun b hb => hpr b ?_⟩) fun e hm => he e ?_ <;> simp only [ringE, List.zip_cons_cons, List.zip_nil_left, List.zip_nil_right, List.tail_cons, List.take_succ_cons, List.take_zero, List.cons_append, List.nil_append, List.mem_cons, List.not_mem_nil, or_false] at * <;> grind
  refine ⟨hC, ?_⟩
  cases h : ringC [b0, b1, b2, b3, b4, b5] p with
  | true =>
    rw [ringN_sum (by simp [ringE]) h, ringN_sum (by simp [ringE]) (by rw [hC]; exact h)]
    simp only [ringE, List.zip_cons_cons, List.zip_nil_left, List.zip_nil_right, List.tail_cons, List.take_succ_cons, List.take_zero, List.cons_append, List.nil_append, List.map_cons, List.map_nil, List.sum_cons, List.sum_nil]
    omega
  | false => unfold ringN; rw [hC, h]; rfl
end Go.Sp
end
