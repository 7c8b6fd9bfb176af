/- By an AI agent. What is proved here: plain definitions of what the program's small functions compute. -/
import Derived.Test.YtegoogghlakghaaGreatFc
section
set_option linter.unusedVariables false
set_option linter.unusedSimpArgs false
namespace Go.Sp
open Go.Ev
/-! What the functions of the program and of the references come to: plain functions on numbers. -/
def w64 (n : Int) : Int := IntKind.i64.wrap n
def inB (n lo hi : Int) : Bool := decide (lo ≤ n) && decide (n ≤ hi)
structure Pt where
  x : Int
  y : Int
structure Box where
  x0 : Int
  x1 : Int
  y0 : Int
  y1 : Int
structure Sn where
  lo : Int
  hi : Int
structure Fact where
  id : Int
  kind : Int
  neg : Bool
  a : Int
  b : Int
  c : Int
  s : Sn
  q : Int
def Pt.cs (p : Pt) : List V := [.int .i64 p.x, .int .i64 p.y]
def Box.cs (b : Box) : List V := [.int .i64 b.x0, .int .i64 b.x1, .int .i64 b.y0, .int .i64 b.y1]
def Sn.cs (s : Sn) : List V := [.int .i64 s.lo, .int .i64 s.hi]
def Fact.cs (f : Fact) : List V := [.int .i64 f.id, .int .i64 f.kind, .bool f.neg, .int .i64 f.a, .int .i64 f.b, .int .i64 f.c, .int .i64 f.s.lo, .int .i64 f.s.hi, .int .i64 f.q]
def Pt.valid (p : Pt) : Bool := inB p.x (-1048576) 1048576 && inB p.y (-1048576) 1048576
def spanB (lo hi : Int) : Bool := inB lo (-1048576) 1048576 && inB hi lo 1048576
def Box.proper (b : Box) : Bool := spanB b.x0 b.x1 && spanB b.y0 b.y1
def Box.corners (b : Box) : List Pt := [⟨b.x0, b.y0⟩, ⟨b.x1, b.y0⟩, ⟨b.x1, b.y1⟩, ⟨b.x0, b.y1⟩]
/-- twice the area of a triangle, as the machine reckons it -/
def tw (a b c : Pt) : Int := w64 (w64 (w64 (b.x - a.x) * w64 (c.y - a.y)) - w64 (w64 (b.y - a.y) * w64 (c.x - a.x)))
def mn (a b : Int) : Int := if b < a then b else a
def mx (a b : Int) : Int := if b > a then b else a
def cover (s t : Sn) : Sn := ⟨mn s.lo t.lo, mx s.hi t.hi⟩
def spreadP (a b c : Box) : Sn :=
  a.corners.foldl (fun o p => b.corners.foldl (fun o q => c.corners.foldl (fun o r => cover o ⟨tw p q r, tw p q r⟩) o) o) ⟨tw ⟨a.x0, a.y0⟩ ⟨b.x0, b.y0⟩ ⟨c.x0, c.y0⟩, tw ⟨a.x0, a.y0⟩ ⟨b.x0, b.y0⟩ ⟨c.x0, c.y0⟩⟩
def spreadOk (a b c : Box) : Bool := a.proper && (b.proper && c.proper)
def spreadLo (a b c : Box) : Int := cond (spreadOk a b c) (spreadP a b c).lo 0
def spreadHi (a b c : Box) : Int := cond (spreadOk a b c) (spreadP a b c).hi 0
/-- the count of an edge, and whether it is clear of a point -/
def edgeW (a b : Box) (p : Pt) : Bool := decide (a.x1 < p.x) && decide (b.x1 < p.x)
def edgeBad (a b : Box) (p : Pt) : Bool := !(edgeW a b p) && !(decide (a.x0 > p.x) && decide (b.x0 > p.x)) && !(decide (a.y1 < p.y) && decide (b.y1 < p.y)) && !(decide (a.y0 > p.y) && decide (b.y0 > p.y)) && !(decide (spreadLo a b ⟨p.x, p.x, p.y, p.y⟩ > 0) || decide (spreadHi a b ⟨p.x, p.x, p.y, p.y⟩ < 0))
def edgeMix (a b : Box) (p : Pt) : Bool := !(decide (a.y1 ≤ p.y)) && !(decide (a.y0 > p.y)) || !(decide (b.y1 ≤ p.y)) && !(decide (b.y0 > p.y))
def edgeC (a b : Box) (p : Pt) : Bool := cond (edgeBad a b p) false (cond (edgeW a b p) true (cond (edgeMix a b p) false true))
def edgeN (a b : Box) (p : Pt) : Int := cond (edgeBad a b p) 0 (cond (edgeW a b p) 0 (cond (edgeMix a b p) 0
  (cond (decide (a.y1 ≤ p.y) && decide (b.y0 > p.y) && decide (spreadLo a b ⟨p.x, p.x, p.y, p.y⟩ > 0)) 1
  (cond (decide (a.y0 > p.y) && decide (b.y1 ≤ p.y) && decide (spreadHi a b ⟨p.x, p.x, p.y, p.y⟩ < 0)) (-1) 0))))
/-- how often a ring of boxes goes around a point -/
def ringOk (l : List Box) (p : Pt) : Bool := inB l.length 3 6 && p.valid && l.all Box.proper
def ringE (l : List Box) : List (Box × Box) := l.zip (l.tail ++ l.take 1)
def ringC (l : List Box) (p : Pt) : Bool := ringOk l p && (ringE l).all fun e => edgeC e.1 e.2 p
def ringN (l : List Box) (p : Pt) : Int := cond (ringC l p) ((ringE l).foldl (fun n e => w64 (n + edgeN e.1 e.2 p)) 0) 0
def less (a b : Sn) : Sn := ⟨w64 (a.lo - b.hi), w64 (a.hi - b.lo)⟩
def Sn.neg (s : Sn) : Sn := ⟨w64 (0 - s.hi), w64 (0 - s.lo)⟩
def amount (s : Sn) : Sn := cond (decide (s.lo ≥ 0)) s (cond (decide (s.hi ≤ 0)) s.neg ⟨0, mx (w64 (0 - s.lo)) s.hi⟩)
def Sn.size (s : Sn) : Int := w64 (w64 (s.hi - s.lo) + 1)
def within (s : Sn) (lo hi : Int) : Bool := decide (lo ≤ s.lo) && (decide (s.lo ≤ s.hi) && decide (s.hi ≤ hi))
def Box.X (b : Box) : Sn := ⟨b.x0, b.x1⟩
def Box.Y (b : Box) : Sn := ⟨b.y0, b.y1⟩
def canV (v s : Sn) : Bool := decide (v.lo ≤ s.hi) && decide (s.lo ≤ v.hi)
def mustV (v s : Sn) : Bool := decide (s.lo ≤ v.lo) && decide (v.hi ≤ s.hi)
def sqS (s : Sn) (t : Sn) : Sn := ⟨w64 (w64 (s.lo * s.lo) + w64 (t.lo * t.lo)), w64 (w64 (s.hi * s.hi) + w64 (t.hi * t.hi))⟩
def distV (a b : Box) : Sn := sqS (amount (less b.X a.X)) (amount (less b.Y a.Y))
def nearC (a b : Box) (n : Int) : Bool := decide (mx (amount (less b.X a.X)).lo (amount (less b.Y a.Y)).lo ≤ n)
def nearM (a b : Box) (n : Int) : Bool := decide (mx (amount (less b.X a.X)).hi (amount (less b.Y a.Y)).hi ≤ n)
/-- along the quarter, and across it -/
def quarX (a b : Box) (q : Int) : Sn := cond (q == 1) (less b.Y a.Y) (cond (q == 2) (less b.X a.X).neg (cond (q == 3) (less b.Y a.Y).neg (less b.X a.X)))
def quarY (a b : Box) (q : Int) : Sn := amount (cond (q == 1) (less b.X a.X) (cond (q == 2) (less b.Y a.Y) (cond (q == 3) (less b.X a.X) (less b.Y a.Y))))
def quarC (a b : Box) (q : Int) : Bool := decide ((quarX a b q).hi > 0) && decide ((quarX a b q).hi ≥ (quarY a b q).lo)
def quarM (a b : Box) (q : Int) : Bool := decide ((quarX a b q).lo > 0) && decide ((quarX a b q).lo ≥ (quarY a b q).hi)
def Box.corners2 (b : Box) : List Pt := [⟨b.x0, b.y0⟩, ⟨b.x0, b.y1⟩, ⟨b.x1, b.y0⟩, ⟨b.x1, b.y1⟩]
def turnV (a b c : Box) : Sn :=
  a.corners2.foldl (fun o p => b.corners2.foldl (fun o q => c.corners2.foldl (fun o r => cover o ⟨tw p q r, tw p q r⟩) o) o) ⟨tw ⟨a.x0, a.y0⟩ ⟨b.x0, b.y0⟩ ⟨c.x0, c.y0⟩, tw ⟨a.x0, a.y0⟩ ⟨b.x0, b.y0⟩ ⟨c.x0, c.y0⟩⟩
def bareC (k : Int) (a b c : Box) (s : Sn) (q : Int) : Bool :=
  cond (k == 2) (canV (turnV a b c) s) (cond (k == 3) (quarC a b q) (cond (k == 4) (nearC a b s.hi) (cond (k == 5) (canV (less b.X a.X) s) (cond (k == 6) (canV (less b.Y a.Y) s) (canV (distV a b) s)))))
def bareM (k : Int) (a b c : Box) (s : Sn) (q : Int) : Bool :=
  cond (k == 2) (mustV (turnV a b c) s) (cond (k == 3) (quarM a b q) (cond (k == 4) (nearM a b s.hi) (cond (k == 5) (mustV (less b.X a.X) s) (cond (k == 6) (mustV (less b.Y a.Y) s) (mustV (distV a b) s)))))
def failsB (k : Int) (ng : Bool) (a b c : Box) (s : Sn) (q : Int) : Bool := cond ng (bareM k a b c s q) (!(bareC k a b c s q))
def boxCs : List V → Option Box
  | [.int .i64 a, .int .i64 b, .int .i64 c, .int .i64 d] => some ⟨a, b, c, d⟩
  | _ => none
def boxAt (es : List (List V)) (i : Int) : Option Box := cond (decide (0 ≤ i)) (match es[i.toNat]? with | some cs => boxCs cs | none => none) none
def properO (b : Box) : Option Unit := cond b.proper (some ()) none
theorem properO_eq {b : Box} {u : Unit} (h : properO b = some u) : b.proper = true := by
  unfold properO at h
  cases hb : b.proper with
  | true => rfl
  | false => rw [hb] at h; cases h
theorem properO_of {b : Box} (h : b.proper = true) : properO b = some () := by unfold properO; rw [h]; rfl
/-- the third box of a fact, if it has one -/
def boxIf (k : Int) (es : List (List V)) (i : Int) : Option Box := cond (k == 2) (boxAt es i) (some ⟨0, 0, 0, 0⟩)
theorem boxCs_eq {cs : List V} {b : Box} (h : boxCs cs = some b) : cs = b.cs := by
  unfold boxCs at h
  split at h
  · cases h; rfl
  · cases h
theorem boxAt_eq {es : List (List V)} {i : Int} {b : Box} (h : boxAt es i = some b) : 0 ≤ i ∧ es[i.toNat]? = some b.cs := by
  unfold boxAt at h
  by_cases h0 : 0 ≤ i
  · simp only [h0, decide_true, cond_true] at h
    split at h
    · rename_i cs hcs
      exact ⟨h0, by rw [hcs, boxCs_eq h]⟩
    · cases h
  · simp [h0] at h
end Go.Sp
end
