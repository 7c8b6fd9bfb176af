/- By an AI agent. What is proved here: the law of rings: the contracts of what it calls, and its end. -/
import Derived.Test.YtegoogghlakghaaGreatFwd
import Derived.Test.YtegoogghlakghaaGreatFrd
import Derived.Test.YtegoogghlakghaaGreatFhd
section
set_option linter.unusedVariables false
set_option linter.unusedSimpArgs false
set_option maxRecDepth 100000
set_option maxHeartbeats 2000000
namespace Go.Lf
open Go Go.Ev Go.Sp Go.Proofs Go.Proofs.YtegoogghlakghaaGreat
def RawOk (rs : List (List V)) : Prop := ∀ r ∈ rs, ∃ n : Int, r = [.int .u8 n] ∧ 0 ≤ n ∧ n < 256
def RawV (r : V) : Prop := r = .snil ∨ ∃ β cl rs, r = .imm β 1 cl rs ∧ RawOk rs
def InR (lo hi i : Int) : Prop := lo ≤ hi ∧ -1048576 ≤ lo ∧ hi ≤ 1048576 ∧ 0 ≤ i
def q19T : List V → Option ((V → Prop) → Prop)
  | [.agg [.int .i64 lo, .int .i64 hi], r, .int .i64 i] => some fun K => RawV r ∧ InR lo hi i ∧ ∀ x : Int, lo ≤ x → x ≤ hi → K (.int .i64 x)
  | _ => none
def q7T : List V → Option ((V → Prop) → Prop)
  | [] => some fun K => K (.bool true)
  | _ => none
def boxesOf : List (List V) → Option (List Box)
  | [] => some []
  | [.int .i64 a, .int .i64 b, .int .i64 c, .int .i64 d] :: r => match boxesOf r with | some l => some (⟨a, b, c, d⟩ :: l) | none => none
  | _ => none
def q11L : List V → Option ((V → Prop) → Prop)
  | [.imm β 4 cl es, .agg [.int .i64 px, .int .i64 py]] => match boxesOf es with
    | some l => some fun K => l.length ≤ 20 ∧ K (.tup [.int .i64 (ringN l ⟨px, py⟩), .bool (ringC l ⟨px, py⟩)])
    | none => none
  | _ => none
def q21L : List V → Option ((V → Prop) → Prop)
  | [.imm β 2 cl es, .agg [.int .i64 px, .int .i64 py]] => match ptsOf es with
    | some l => some fun K => l.length < 1000 ∧ K (.tup [.int .i64 (windR l ⟨px, py⟩).1, .int .i64 (windR l ⟨px, py⟩).2])
    | none => none
  | _ => none
def qNo : List V → Option ((V → Prop) → Prop) := fun _ => some fun _ => False
def elU : Nat → Option ((List V → Prop) → Prop) := fun t => cond (t.beq 5) (some fun K => ∃ n : Int, K [.int .u8 n]) none
def tabW6 : Tr Tq := (((tab11.set 7 q7T).set 11 q11L).set 19 q19T).set 21 q21L
noncomputable def enW6 : En := { enOf elN tabW6 with rm := true }
def tabW0 : Tr Tq := (tab11.set 7 q7T).set 11 qNo
theorem elU_ok : ∀ t T, elU t = some T → ∀ K, T K → ∃ cs, K cs := fun t T h K hK => by
  unfold elU at h
  cases hb : t.beq 5 with
  | false => rw [hb] at h; cases h
  | true => rw [hb] at h; cases h; obtain ⟨b, hb⟩ := hK; exact ⟨_, hb⟩
theorem enU_ok : EnOk cx0 (enOf elU tab11) := enOf_ok elU_ok tab11_ok
theorem t19n (lo hi i : Int) : Pev cx0 19 [.agg [.int .i64 lo, .int .i64 hi], .snil, .int .i64 i] (.int .i64 lo) := by
  have F : ∀ QR : Rs → Prop, vc cx0 (enOf elU tab11) 60 (.pcall 19 [.agg [.int .i64 lo, .int .i64 hi], .snil, .int .i64 i]) QR = QR (Rs.val (V.int .i64 lo) Hp.empty) := fun QR => by kernel_rfl
  refine vcP enU_ok 60 ?_
  rw [F]
theorem t19 (lo hi i : Int) (β cl : Bool) (rs : List (List V)) (hr : RawOk rs) (hin : InR lo hi i) : ∃ x, lo ≤ x ∧ x ≤ hi ∧ Pev cx0 19 [.agg [.int .i64 lo, .int .i64 hi], .imm β 1 cl rs, .int .i64 i] (.int .i64 x) := by
  have F : ∀ QR : Rs → Prop, vc cx0 (enOf elU tab11) 60 (.pcall 19 [.agg [.int .i64 lo, .int .i64 hi], .imm β 1 cl rs, .int .i64 i]) QR = (brW ((↑(List.length rs) : Int) == 0) (QR (Rs.val (V.int IntKind.i64 lo) Hp.empty)) (need (!decide ((↑(List.length rs) : Int) = 0)) (need (leB 0 (Int.tmod i (↑(List.length rs) : Int))) (∃ n, rs[Int.toNat (Int.tmod i (↑(List.length rs) : Int))]? = some [V.int IntKind.u8 n] ∧ need (!decide (w64 (w64 (hi - lo) + 1) = 0)) (QR (Rs.val (V.int IntKind.i64 (w64 (lo + Int.tmod (w64 n) (w64 (w64 (hi - lo) + 1))))) Hp.empty)))))) := fun QR => by kernel_rfl
  obtain ⟨h1, h2, h3, h4⟩ := hin
  have key : ∃ r, Evs cx0 (.pcall 19 [.agg [.int .i64 lo, .int .i64 hi], .imm β 1 cl rs, .int .i64 i]) r ∧ ∃ x, lo ≤ x ∧ x ≤ hi ∧ r = Rs.val (V.int .i64 x) Hp.empty := by
    refine vc_ok enU_ok 60 _ _ ?_
    rw [F]
    clear F
    refine brI (fun h => ⟨lo, Int.le_refl _, h1, rfl⟩) (fun h => ?_)
    have hn : rs.length ≠ 0 := by simpa using h
    refine needI (by rw [decide_eq_false (by omega)]; rfl) ?_
    have e : Int.tmod i (rs.length : Int) = ((i.toNat % rs.length : Nat) : Int) := by
      obtain ⟨j, rfl⟩ := Int.eq_ofNat_of_zero_le h4
      rfl
    have hlt : i.toNat % rs.length < rs.length := Nat.mod_lt _ (by omega)
    rw [e, Int.toNat_natCast]
    refine needI (by simp only [leB, decide_eq_true_eq]; omega) ?_
    obtain ⟨n, hn1, hn2, hn3⟩ := hr rs[i.toNat % rs.length] (List.getElem_mem hlt)
    refine ⟨n, by rw [List.getElem?_eq_getElem hlt, hn1], ?_⟩
    have e1 : w64 (hi - lo) = hi - lo := w64_id (by omega) (by omega)
    have e2 : w64 (hi - lo + 1) = hi - lo + 1 := w64_id (by omega) (by omega)
    have e3 : w64 n = n := w64_id (by omega) (by omega)
    rw [e1, e2, e3]
    refine needI (by rw [decide_eq_false (by omega)]; rfl) ?_
    have t1 := Int.tmod_nonneg (a := n) (hi - lo + 1) (by omega)
    have t2 := Int.tmod_lt_of_pos n (b := hi - lo + 1) (by omega)
    have e4 : w64 (lo + n.tmod (hi - lo + 1)) = lo + n.tmod (hi - lo + 1) := w64_id (by omega) (by omega)
    exact ⟨lo + n.tmod (hi - lo + 1), by omega, by omega, by rw [e4]⟩
  obtain ⟨r, hr, x, hx1, hx2, rfl⟩ := key
  exact ⟨x, hx1, hx2, hr⟩
theorem q19 : TqOk cx0 19 q19T := by
  intro args T hT K hK
  unfold q19T at hT
  split at hT
  · cases hT
    obtain ⟨hr, hi, hK⟩ := hK
    rcases hr with rfl | ⟨β, cl, rs, rfl, hr⟩
    · exact ⟨_, t19n _ _ _, hK _ (Int.le_refl _) hi.1⟩
    · obtain ⟨x, h1, h2, h3⟩ := t19 _ _ _ β cl rs hr hi
      exact ⟨_, h3, hK x h1 h2⟩
  · cases hT
theorem boxesOf_eq : ∀ {es : List (List V)} {l : List Box}, boxesOf es = some l → es = l.map Box.cs
  | [], l, h => by cases h; rfl
  | r :: es, l, h => by
    unfold boxesOf at h
    split at h
    · rename_i heq; cases heq
    · rename_i heq
      cases heq
      split at h
      · rename_i l' hl'
        cases h
        rw [boxesOf_eq hl']; rfl
      · cases h
    · cases h
theorem ptsOf_eq : ∀ {es : List (List V)} {l : List Pt}, ptsOf es = some l → es = l.map Pt.cs
  | [], l, h => by cases h; rfl
  | r :: es, l, h => by
    unfold ptsOf at h
    split at h
    · rename_i heq; cases heq
    · rename_i heq
      cases heq
      split at h
      · rename_i l' hl'
        cases h
        rw [ptsOf_eq hl']; rfl
      · cases h
    · cases h
theorem q11 : TqOk cx0 11 q11L := by
  intro args T hT K hK
  unfold q11L at hT
  split at hT
  · rename_i β cl es px py
    split at hT
    · rename_i l hl
      cases hT
      have := boxesOf_eq hl
      subst this
      exact ⟨_, rd11 β cl ⟨px, py⟩ l hK.1, hK.2⟩
    · cases hT
  · cases hT
theorem q21 : TqOk cx0 21 q21L := by
  intro args T hT K hK
  unfold q21L at hT
  split at hT
  · rename_i β cl es px py
    split at hT
    · rename_i l hl
      cases hT
      have := ptsOf_eq hl
      subst this
      exact ⟨_, t21 β cl l ⟨px, py⟩ hK.1, hK.2⟩
    · cases hT
  · cases hT
theorem q7 : TqOk cx0 7 q7T := by
  intro args T hT K hK
  unfold q7T at hT
  split at hT
  · cases hT; exact ⟨_, h38, hK⟩
  · cases hT
theorem enW6_ok : EnOk cx0 enW6 := by
  have h : EnOk cx0 (enOf elN tabW6) := enOf_ok (fun t T h => by cases h) ((((tab11_ok.set q7).set q11).set q19).set q21)
  exact ⟨h.el, h.pc, h.lp⟩
theorem enW0_ok : EnOk cx0 (enOf elN tabW0) := enOf_ok (fun t T h => by cases h) ((tab11_ok.set q7).set (fun args T hT K hK => by cases hT; exact hK.elim))
/-- too few boxes, or too many -/
theorem law6s (cl : Bool) (p : Pt) (l : List Box) (k : Int) (r : V) (hp : r.pure = true) (hl : l.length < 3 ∨ 6 < l.length) (hr : RawV r) : Pev cx0 6 [.imm false 4 cl (l.map Box.cs), .agg p.cs, .int .u8 k, r] (.bool true) := by
  have fin : ∀ QR : Rs → Prop, (∃ r', Evs cx0 (.pcall 6 [.imm false 4 cl (l.map Box.cs), .agg p.cs, .int .u8 k, r]) r' ∧ r' = .val (.bool true) .empty) → Pev cx0 6 [.imm false 4 cl (l.map Box.cs), .agg p.cs, .int .u8 k, r] (.bool true) := fun _ ⟨r', h, e⟩ => by subst e; exact h
  rcases hr with rfl | ⟨β, clr, rs, rfl, _⟩
  · have F : ∀ QR : Rs → Prop, vc cx0 (enOf elN tabW0) 100 (.pcall 6 [.imm false 4 cl (l.map Box.cs), .agg p.cs, .int .u8 k, .snil]) QR = (brW (decide ((↑(List.length (List.map Box.cs l)) : Int) < 3)) (QR (Rs.val (V.bool true) Hp.empty)) (brW (decide ((↑(List.length (List.map Box.cs l)) : Int) > 6)) (QR (Rs.val (V.bool true) Hp.empty)) False)) := fun QR => by kernel_rfl
    refine vcP enW0_ok 100 ?_
    rw [F]
    refine brI (fun _ => rfl) (fun h => brI (fun _ => rfl) (fun h2 => ?_))
    simp only [List.length_map, decide_eq_false_iff_not] at h h2
    omega
  · have F : ∀ QR : Rs → Prop, vc cx0 (enOf elN tabW0) 100 (.pcall 6 [.imm false 4 cl (l.map Box.cs), .agg p.cs, .int .u8 k, .imm β 1 clr rs]) QR = (brW (decide ((↑(List.length (List.map Box.cs l)) : Int) < 3)) (QR (Rs.val (V.bool true) Hp.empty)) (brW (decide ((↑(List.length (List.map Box.cs l)) : Int) > 6)) (QR (Rs.val (V.bool true) Hp.empty)) False)) := fun QR => by kernel_rfl
    refine vcP enW0_ok 100 ?_
    rw [F]
    refine brI (fun _ => rfl) (fun h => brI (fun _ => rfl) (fun h2 => ?_))
    simp only [List.length_map, decide_eq_false_iff_not] at h h2
    omega
theorem law6n (p : Pt) (k : Int) (r : V) (hr : RawV r) : Pev cx0 6 [.snil, .agg p.cs, .int .u8 k, r] (.bool true) := by
  rcases hr with rfl | ⟨β, clr, rs, rfl, _⟩
  · have F : ∀ QR : Rs → Prop, vc cx0 (enOf elN tabW0) 100 (.pcall 6 [.snil, .agg p.cs, .int .u8 k, .snil]) QR = (QR (Rs.val (V.bool true) Hp.empty)) := fun QR => by kernel_rfl
    refine vcP enW0_ok 100 ?_
    rw [F]
  · have F : ∀ QR : Rs → Prop, vc cx0 (enOf elN tabW0) 100 (.pcall 6 [.snil, .agg p.cs, .int .u8 k, .imm β 1 clr rs]) QR = (QR (Rs.val (V.bool true) Hp.empty)) := fun QR => by kernel_rfl
    refine vcP enW0_ok 100 ?_
    rw [F]
theorem inr_x {b : Box} {i : Int} (hb : b.proper = true) (hi : 0 ≤ i) : InR b.x0 b.x1 i := by rw [proper_iff] at hb; exact ⟨by omega, by omega, by omega, hi⟩
theorem inr_y {b : Box} {i : Int} (hb : b.proper = true) (hi : 0 ≤ i) : InR b.y0 b.y1 i := by rw [proper_iff] at hb; exact ⟨by omega, by omega, by omega, hi⟩
theorem not_ring {l : List Box} {p : Pt} {b : Box} (hb : b ∈ l) (h : b.proper = false) : ringC l p = false := by
  cases e : ringC l p with
  | false => rfl
  | true =>
    have := (ringOk_iff.1 (ringC_ok e).1).2.2.2 b hb
    rw [h] at this; cases this
/-- the end of the law, for small boxes -/
def lrEnd (l rv small dots : List Box) (pts : List Pt) (p : Pt) (K : Bool → Prop) : Prop :=
  rv.length ≤ 20 ∧ small.length ≤ 20 ∧ dots.length ≤ 20 ∧ pts.length < 1000 ∧ brW (ringC l p && (!ringC rv p || !ringN rv p == w64 (0 - ringN l p) || !ringC small p || !ringN small p == ringN l p || !ringC dots p || !ringN dots p == ringN l p))
    (K false) (K (!ringC dots p || (windR pts p).2 == 0 && (windR pts p).1 == ringN dots p))
noncomputable def c6a : Code := subC [1, 1, 1, 1, 1, 1, 1] (bodyC Tryz.f6)
noncomputable def c6b : Code := subC [1, 1, 1, 1, 1, 1, 1, 1] (bodyC Tryz.f6)
def mk6 : List Bool := [true, false, false, true, false, true, false, false, false, true, true, true] ++ List.replicate 230 false
def mk6E : List Bool := [false, false, false, false, false, false, false, false, true] ++ List.replicate 233 false
def vals6 (cl : Bool) (es : List (List V)) (r : V) (n : Int) (i : Bool) : List V := [.imm false 4 cl es, r, .ptr 0 0 0, .bool true, .int .i64 n, .bool i]
def vals6E (b : Bool) (_ : Unit) : List V := [.bool b]
def AllP (l : List Box) : Prop := ∀ b ∈ l, b.proper = true
def T6 (cc : Code) (C : Prop) (vs : List V) (p : Pt) : Code → St → (Rs → Prop) → Prop := fun c s Q => isC c cc ∧ C ∧ chkS mk6 1 s (pick mk6 s.tm = vs ∧ obsF 1 0 s.h = [some (.cells [p.cs] 2)] ∧ ∀ g, Q (.out .ret ((Fam.of mk6E (vals6E true) (oP p)).stM s.h.next () g)))
theorem ok6 {vs : List V} (p : Pt) (h : V.lows 1 vs = true) : OfOk mk6 (fun _ : Unit => vs) (oP p) 1 := okP mk6 _ p fun _ => h
theorem ok6E (p : Pt) : OfOk mk6E (vals6E true) (oP p) 1 := okP mk6E _ p fun _ => rfl
theorem T6_ok {cc : Code} {C : Prop} {vs : List V} {p : Pt} (hv : V.lows 1 vs = true) (h : C → ∀ g, ∃ g', Evs cx0 (.code cc ((Fam.of mk6 (fun _ : Unit => vs) (oP p)).st 1 () g)) (.out .ret ((Fam.of mk6E (vals6E true) (oP p)).st 1 () g'))) :
    ∀ c s Q, T6 cc C vs p c s Q → ∃ r, Evs cx0 (.code c s) r ∧ Q r := by
  rintro c s Q ⟨hc, hC, hk⟩
  obtain ⟨hk, h1, h2, h3⟩ := need_iff.1 hk
  have hc : c = cc := hc
  subst hc
  obtain ⟨g', hev⟩ := cut_from (x := ()) (y := ()) (ok6 p hv) (ok6E p) (h hC) hk h1 h2
  exact ⟨_, hev, h3 g'⟩
noncomputable def enX (k : Nat) (T : Code → St → (Rs → Prop) → Prop) : En := { enW6 with lp := lp1 k T }
theorem enX_ok {k : Nat} {T : Code → St → (Rs → Prop) → Prop} (h : ∀ c s Q, T c s Q → ∃ r, Evs cx0 (.code c s) r ∧ Q r) : EnOk cx0 (enX k T) := ⟨enW6_ok.el, enW6_ok.pc, lp1_ok h⟩
def tail3 (r : V) (b0 b1 b2 : Box) (p : Pt) (K : Bool → Prop) : Prop := RawV r ∧ InR b0.x0 b0.x1 0 ∧ ∀ x0 : Int, b0.x0 ≤ x0 → x0 ≤ b0.x1 → RawV r ∧ InR b0.y0 b0.y1 1 ∧ ∀ y0 : Int, b0.y0 ≤ y0 → y0 ≤ b0.y1 → RawV r ∧ InR b1.x0 b1.x1 2 ∧ ∀ x1 : Int, b1.x0 ≤ x1 → x1 ≤ b1.x1 → RawV r ∧ InR b1.y0 b1.y1 3 ∧ ∀ y1 : Int, b1.y0 ≤ y1 → y1 ≤ b1.y1 → RawV r ∧ InR b2.x0 b2.x1 4 ∧ ∀ x2 : Int, b2.x0 ≤ x2 → x2 ≤ b2.x1 → RawV r ∧ InR b2.y0 b2.y1 5 ∧ ∀ y2 : Int, b2.y0 ≤ y2 → y2 ≤ b2.y1 → lrEnd [b0, b1, b2] [b2, b1, b0] [Box.mk x0 x0 y0 b0.y1, Box.mk x1 x1 y1 b1.y1, Box.mk x2 x2 y2 b2.y1] [Box.mk x0 x0 y0 y0, Box.mk x1 x1 y1 y1, Box.mk x2 x2 y2 y2] [Pt.mk x0 y0, Pt.mk x1 y1, Pt.mk x2 y2] p K
theorem tail3_ok (r : V) (hr : RawV r) (b0 b1 b2 : Box) (p : Pt) (h0 : b0.proper = true) (h1 : b1.proper = true) (h2 : b2.proper = true) (K : Bool → Prop) (hK : K true) : tail3 r b0 b1 b2 p K := by
  unfold tail3
  refine ⟨hr, inr_x h0 (by decide), fun x0 a0 c0 => ⟨hr, inr_y h0 (by decide), fun y0 d0 e0 => ⟨hr, inr_x h1 (by decide), fun x1 a1 c1 => ⟨hr, inr_y h1 (by decide), fun y1 d1 e1 => ⟨hr, inr_x h2 (by decide), fun x2 a2 c2 => ⟨hr, inr_y h2 (by decide), fun y2 d2 e2 => ?_⟩⟩⟩⟩⟩⟩
  refine ⟨Nat.le_of_ble_eq_true rfl, Nat.le_of_ble_eq_true rfl, Nat.le_of_ble_eq_true rfl, Nat.le_of_ble_eq_true rfl, ?_⟩
  have R := rings3 b0 b1 b2 ⟨x0, y0⟩ ⟨x1, y1⟩ ⟨x2, y2⟩ p h0 h1 h2 ⟨a0, c0, d0, e0⟩ ⟨a1, c1, d1, e1⟩ ⟨a2, c2, d2, e2⟩
  have W := winds3 ⟨x0, y0⟩ ⟨x1, y1⟩ ⟨x2, y2⟩ p
  simp only [Pt.low, Pt.dot] at R W
  refine brI (fun h => ?_) (fun h => ?_)
  · exfalso
    rw [Bool.and_eq_true] at h
    obtain ⟨r1, r2, r3, r4, r5, r6⟩ := R h.1
    have h2 := h.2
    simp [r1, r2, r3, r4, r5, r6] at h2
  · have e : (!ringC [Box.mk x0 x0 y0 y0, Box.mk x1 x1 y1 y1, Box.mk x2 x2 y2 y2] p || (windR [Pt.mk x0 y0, Pt.mk x1 y1, Pt.mk x2 y2] p).2 == 0 && (windR [Pt.mk x0 y0, Pt.mk x1 y1, Pt.mk x2 y2] p).1 == ringN [Box.mk x0 x0 y0 y0, Box.mk x1 x1 y1 y1, Box.mk x2 x2 y2 y2] p) = true := by
      cases hd : ringC [Box.mk x0 x0 y0 y0, Box.mk x1 x1 y1 y1, Box.mk x2 x2 y2 y2] p with
      | false => rfl
      | true =>
        obtain ⟨w1, w2, w3, v0, v1, v2⟩ := W hd
        have e : windR [Pt.mk x0 y0, Pt.mk x1 y1, Pt.mk x2 y2] p = (ringN [Box.mk x0 x0 y0 y0, Box.mk x1 x1 y1 y1, Box.mk x2 x2 y2 y2] p, 0) := by
          have g : windG [Pt.mk x0 y0, Pt.mk x1 y1, Pt.mk x2 y2] p 0 0 = windN [Pt.mk x0 y0, Pt.mk x1 y1, Pt.mk x2 y2] p := by rw [windN_sum (by simp [ptsE])]; simp only [windG, List.drop_zero]; omega
          simp only [windR, pointsE, w1, w3, g, w2]
          simp [v0, v1, v2]
        rw [e]; simp
    rw [e]; exact hK
def tail4 (r : V) (b0 b1 b2 b3 : Box) (p : Pt) (K : Bool → Prop) : Prop := RawV r ∧ InR b0.x0 b0.x1 0 ∧ ∀ x0 : Int, b0.x0 ≤ x0 → x0 ≤ b0.x1 → RawV r ∧ InR b0.y0 b0.y1 1 ∧ ∀ y0 : Int, b0.y0 ≤ y0 → y0 ≤ b0.y1 → RawV r ∧ InR b1.x0 b1.x1 2 ∧ ∀ x1 : Int, b1.x0 ≤ x1 → x1 ≤ b1.x1 → RawV r ∧ InR b1.y0 b1.y1 3 ∧ ∀ y1 : Int, b1.y0 ≤ y1 → y1 ≤ b1.y1 → RawV r ∧ InR b2.x0 b2.x1 4 ∧ ∀ x2 : Int, b2.x0 ≤ x2 → x2 ≤ b2.x1 → RawV r ∧ InR b2.y0 b2.y1 5 ∧ ∀ y2 : Int, b2.y0 ≤ y2 → y2 ≤ b2.y1 → RawV r ∧ InR b3.x0 b3.x1 6 ∧ ∀ x3 : Int, b3.x0 ≤ x3 → x3 ≤ b3.x1 → RawV r ∧ InR b3.y0 b3.y1 7 ∧ ∀ y3 : Int, b3.y0 ≤ y3 → y3 ≤ b3.y1 → lrEnd [b0, b1, b2, b3] [b3, b2, b1, b0] [Box.mk x0 x0 y0 b0.y1, Box.mk x1 x1 y1 b1.y1, Box.mk x2 x2 y2 b2.y1, Box.mk x3 x3 y3 b3.y1] [Box.mk x0 x0 y0 y0, Box.mk x1 x1 y1 y1, Box.mk x2 x2 y2 y2, Box.mk x3 x3 y3 y3] [Pt.mk x0 y0, Pt.mk x1 y1, Pt.mk x2 y2, Pt.mk x3 y3] p K
theorem tail4_ok (r : V) (hr : RawV r) (b0 b1 b2 b3 : Box) (p : Pt) (h0 : b0.proper = true) (h1 : b1.proper = true) (h2 : b2.proper = true) (h3 : b3.proper = true) (K : Bool → Prop) (hK : K true) : tail4 r b0 b1 b2 b3 p K := by
  unfold tail4
  refine ⟨hr, inr_x h0 (by decide), fun x0 a0 c0 => ⟨hr, inr_y h0 (by decide), fun y0 d0 e0 => ⟨hr, inr_x h1 (by decide), fun x1 a1 c1 => ⟨hr, inr_y h1 (by decide), fun y1 d1 e1 => ⟨hr, inr_x h2 (by decide), fun x2 a2 c2 => ⟨hr, inr_y h2 (by decide), fun y2 d2 e2 => ⟨hr, inr_x h3 (by decide), fun x3 a3 c3 => ⟨hr, inr_y h3 (by decide), fun y3 d3 e3 => ?_⟩⟩⟩⟩⟩⟩⟩⟩
  refine ⟨Nat.le_of_ble_eq_true rfl, Nat.le_of_ble_eq_true rfl, Nat.le_of_ble_eq_true rfl, Nat.le_of_ble_eq_true rfl, ?_⟩
  have R := rings4 b0 b1 b2 b3 ⟨x0, y0⟩ ⟨x1, y1⟩ ⟨x2, y2⟩ ⟨x3, y3⟩ p h0 h1 h2 h3 ⟨a0, c0, d0, e0⟩ ⟨a1, c1, d1, e1⟩ ⟨a2, c2, d2, e2⟩ ⟨a3, c3, d3, e3⟩
  have W := winds4 ⟨x0, y0⟩ ⟨x1, y1⟩ ⟨x2, y2⟩ ⟨x3, y3⟩ p
  simp only [Pt.low, Pt.dot] at R W
  refine brI (fun h => ?_) (fun h => ?_)
  · exfalso
    rw [Bool.and_eq_true] at h
    obtain ⟨r1, r2, r3, r4, r5, r6⟩ := R h.1
    have h2 := h.2
    simp [r1, r2, r3, r4, r5, r6] at h2
  · have e : (!ringC [Box.mk x0 x0 y0 y0, Box.mk x1 x1 y1 y1, Box.mk x2 x2 y2 y2, Box.mk x3 x3 y3 y3] p || (windR [Pt.mk x0 y0, Pt.mk x1 y1, Pt.mk x2 y2, Pt.mk x3 y3] p).2 == 0 && (windR [Pt.mk x0 y0, Pt.mk x1 y1, Pt.mk x2 y2, Pt.mk x3 y3] p).1 == ringN [Box.mk x0 x0 y0 y0, Box.mk x1 x1 y1 y1, Box.mk x2 x2 y2 y2, Box.mk x3 x3 y3 y3] p) = true := by
      cases hd : ringC [Box.mk x0 x0 y0 y0, Box.mk x1 x1 y1 y1, Box.mk x2 x2 y2 y2, Box.mk x3 x3 y3 y3] p with
      | false => rfl
      | true =>
        obtain ⟨w1, w2, w3, v0, v1, v2, v3⟩ := W hd
        have e : windR [Pt.mk x0 y0, Pt.mk x1 y1, Pt.mk x2 y2, Pt.mk x3 y3] p = (ringN [Box.mk x0 x0 y0 y0, Box.mk x1 x1 y1 y1, Box.mk x2 x2 y2 y2, Box.mk x3 x3 y3 y3] p, 0) := by
          have g : windG [Pt.mk x0 y0, Pt.mk x1 y1, Pt.mk x2 y2, Pt.mk x3 y3] p 0 0 = windN [Pt.mk x0 y0, Pt.mk x1 y1, Pt.mk x2 y2, Pt.mk x3 y3] p := by rw [windN_sum (by simp [ptsE])]; simp only [windG, List.drop_zero]; omega
          simp only [windR, pointsE, w1, w3, g, w2]
          simp [v0, v1, v2, v3]
        rw [e]; simp
    rw [e]; exact hK
def tail5 (r : V) (b0 b1 b2 b3 b4 : Box) (p : Pt) (K : Bool → Prop) : Prop := RawV r ∧ InR b0.x0 b0.x1 0 ∧ ∀ x0 : Int, b0.x0 ≤ x0 → x0 ≤ b0.x1 → RawV r ∧ InR b0.y0 b0.y1 1 ∧ ∀ y0 : Int, b0.y0 ≤ y0 → y0 ≤ b0.y1 → RawV r ∧ InR b1.x0 b1.x1 2 ∧ ∀ x1 : Int, b1.x0 ≤ x1 → x1 ≤ b1.x1 → RawV r ∧ InR b1.y0 b1.y1 3 ∧ ∀ y1 : Int, b1.y0 ≤ y1 → y1 ≤ b1.y1 → RawV r ∧ InR b2.x0 b2.x1 4 ∧ ∀ x2 : Int, b2.x0 ≤ x2 → x2 ≤ b2.x1 → RawV r ∧ InR b2.y0 b2.y1 5 ∧ ∀ y2 : Int, b2.y0 ≤ y2 → y2 ≤ b2.y1 → RawV r ∧ InR b3.x0 b3.x1 6 ∧ ∀ x3 : Int, b3.x0 ≤ x3 → x3 ≤ b3.x1 → RawV r ∧ InR b3.y0 b3.y1 7 ∧ ∀ y3 : Int, b3.y0 ≤ y3 → y3 ≤ b3.y1 → RawV r ∧ InR b4.x0 b4.x1 8 ∧ ∀ x4 : Int, b4.x0 ≤ x4 → x4 ≤ b4.x1 → RawV r ∧ InR b4.y0 b4.y1 9 ∧ ∀ y4 : Int, b4.y0 ≤ y4 → y4 ≤ b4.y1 → lrEnd [b0, b1, b2, b3, b4] [b4, b3, b2, b1, b0] [Box.mk x0 x0 y0 b0.y1, Box.mk x1 x1 y1 b1.y1, Box.mk x2 x2 y2 b2.y1, Box.mk x3 x3 y3 b3.y1, Box.mk x4 x4 y4 b4.y1] [Box.mk x0 x0 y0 y0, Box.mk x1 x1 y1 y1, Box.mk x2 x2 y2 y2, Box.mk x3 x3 y3 y3, Box.mk x4 x4 y4 y4] [Pt.mk x0 y0, Pt.mk x1 y1, Pt.mk x2 y2, Pt.mk x3 y3, Pt.mk x4 y4] p K
theorem tail5_ok (r : V) (hr : RawV r) (b0 b1 b2 b3 b4 : Box) (p : Pt) (h0 : b0.proper = true) (h1 : b1.proper = true) (h2 : b2.proper = true) (h3 : b3.proper = true) (h4 : b4.proper = true) (K : Bool → Prop) (hK : K true) : tail5 r b0 b1 b2 b3 b4 p K := by
  unfold tail5
  refine ⟨hr, inr_x h0 (by decide), fun x0 a0 c0 => ⟨hr, inr_y h0 (by decide), fun y0 d0 e0 => ⟨hr, inr_x h1 (by decide), fun x1 a1 c1 => ⟨hr, inr_y h1 (by decide), fun y1 d1 e1 => ⟨hr, inr_x h2 (by decide), fun x2 a2 c2 => ⟨hr, inr_y h2 (by decide), fun y2 d2 e2 => ⟨hr, inr_x h3 (by decide), fun x3 a3 c3 => ⟨hr, inr_y h3 (by decide), fun y3 d3 e3 => ⟨hr, inr_x h4 (by decide), fun x4 a4 c4 => ⟨hr, inr_y h4 (by decide), fun y4 d4 e4 => ?_⟩⟩⟩⟩⟩⟩⟩⟩⟩⟩
  refine ⟨Nat.le_of_ble_eq_true rfl, Nat.le_of_ble_eq_true rfl, Nat.le_of_ble_eq_true rfl, Nat.le_of_ble_eq_true rfl, ?_⟩
  have R := rings5 b0 b1 b2 b3 b4 ⟨x0, y0⟩ ⟨x1, y1⟩ ⟨x2, y2⟩ ⟨x3, y3⟩ ⟨x4, y4⟩ p h0 h1 h2 h3 h4 ⟨a0, c0, d0, e0⟩ ⟨a1, c1, d1, e1⟩ ⟨a2, c2, d2, e2⟩ ⟨a3, c3, d3, e3⟩ ⟨a4, c4, d4, e4⟩
  have W := winds5 ⟨x0, y0⟩ ⟨x1, y1⟩ ⟨x2, y2⟩ ⟨x3, y3⟩ ⟨x4, y4⟩ p
  simp only [Pt.low, Pt.dot] at R W
  refine brI (fun h => ?_) (fun h => ?_)
  · exfalso
    rw [Bool.and_eq_true] at h
    obtain ⟨r1, r2, r3, r4, r5, r6⟩ := R h.1
    have h2 := h.2
    simp [r1, r2, r3, r4, r5, r6] at h2
  · have e : (!ringC [Box.mk x0 x0 y0 y0, Box.mk x1 x1 y1 y1, Box.mk x2 x2 y2 y2, Box.mk x3 x3 y3 y3, Box.mk x4 x4 y4 y4] p || (windR [Pt.mk x0 y0, Pt.mk x1 y1, Pt.mk x2 y2, Pt.mk x3 y3, Pt.mk x4 y4] p).2 == 0 && (windR [Pt.mk x0 y0, Pt.mk x1 y1, Pt.mk x2 y2, Pt.mk x3 y3, Pt.mk x4 y4] p).1 == ringN [Box.mk x0 x0 y0 y0, Box.mk x1 x1 y1 y1, Box.mk x2 x2 y2 y2, Box.mk x3 x3 y3 y3, Box.mk x4 x4 y4 y4] p) = true := by
      cases hd : ringC [Box.mk x0 x0 y0 y0, Box.mk x1 x1 y1 y1, Box.mk x2 x2 y2 y2, Box.mk x3 x3 y3 y3, Box.mk x4 x4 y4 y4] p with
      | false => rfl
      | true =>
        obtain ⟨w1, w2, w3, v0, v1, v2, v3, v4⟩ := W hd
        have e : windR [Pt.mk x0 y0, Pt.mk x1 y1, Pt.mk x2 y2, Pt.mk x3 y3, Pt.mk x4 y4] p = (ringN [Box.mk x0 x0 y0 y0, Box.mk x1 x1 y1 y1, Box.mk x2 x2 y2 y2, Box.mk x3 x3 y3 y3, Box.mk x4 x4 y4 y4] p, 0) := by
          have g : windG [Pt.mk x0 y0, Pt.mk x1 y1, Pt.mk x2 y2, Pt.mk x3 y3, Pt.mk x4 y4] p 0 0 = windN [Pt.mk x0 y0, Pt.mk x1 y1, Pt.mk x2 y2, Pt.mk x3 y3, Pt.mk x4 y4] p := by rw [windN_sum (by simp [ptsE])]; simp only [windG, List.drop_zero]; omega
          simp only [windR, pointsE, w1, w3, g, w2]
          simp [v0, v1, v2, v3, v4]
        rw [e]; simp
    rw [e]; exact hK
def tail6 (r : V) (b0 b1 b2 b3 b4 b5 : Box) (p : Pt) (K : Bool → Prop) : Prop := RawV r ∧ InR b0.x0 b0.x1 0 ∧ ∀ x0 : Int, b0.x0 ≤ x0 → x0 ≤ b0.x1 → RawV r ∧ InR b0.y0 b0.y1 1 ∧ ∀ y0 : Int, b0.y0 ≤ y0 → y0 ≤ b0.y1 → RawV r ∧ InR b1.x0 b1.x1 2 ∧ ∀ x1 : Int, b1.x0 ≤ x1 → x1 ≤ b1.x1 → RawV r ∧ InR b1.y0 b1.y1 3 ∧ ∀ y1 : Int, b1.y0 ≤ y1 → y1 ≤ b1.y1 → RawV r ∧ InR b2.x0 b2.x1 4 ∧ ∀ x2 : Int, b2.x0 ≤ x2 → x2 ≤ b2.x1 → RawV r ∧ InR b2.y0 b2.y1 5 ∧ ∀ y2 : Int, b2.y0 ≤ y2 → y2 ≤ b2.y1 → RawV r ∧ InR b3.x0 b3.x1 6 ∧ ∀ x3 : Int, b3.x0 ≤ x3 → x3 ≤ b3.x1 → RawV r ∧ InR b3.y0 b3.y1 7 ∧ ∀ y3 : Int, b3.y0 ≤ y3 → y3 ≤ b3.y1 → RawV r ∧ InR b4.x0 b4.x1 8 ∧ ∀ x4 : Int, b4.x0 ≤ x4 → x4 ≤ b4.x1 → RawV r ∧ InR b4.y0 b4.y1 9 ∧ ∀ y4 : Int, b4.y0 ≤ y4 → y4 ≤ b4.y1 → RawV r ∧ InR b5.x0 b5.x1 10 ∧ ∀ x5 : Int, b5.x0 ≤ x5 → x5 ≤ b5.x1 → RawV r ∧ InR b5.y0 b5.y1 11 ∧ ∀ y5 : Int, b5.y0 ≤ y5 → y5 ≤ b5.y1 → lrEnd [b0, b1, b2, b3, b4, b5] [b5, b4, b3, b2, b1, b0] [Box.mk x0 x0 y0 b0.y1, Box.mk x1 x1 y1 b1.y1, Box.mk x2 x2 y2 b2.y1, Box.mk x3 x3 y3 b3.y1, Box.mk x4 x4 y4 b4.y1, Box.mk x5 x5 y5 b5.y1] [Box.mk x0 x0 y0 y0, Box.mk x1 x1 y1 y1, Box.mk x2 x2 y2 y2, Box.mk x3 x3 y3 y3, Box.mk x4 x4 y4 y4, Box.mk x5 x5 y5 y5] [Pt.mk x0 y0, Pt.mk x1 y1, Pt.mk x2 y2, Pt.mk x3 y3, Pt.mk x4 y4, Pt.mk x5 y5] p K
theorem tail6_ok (r : V) (hr : RawV r) (b0 b1 b2 b3 b4 b5 : Box) (p : Pt) (h0 : b0.proper = true) (h1 : b1.proper = true) (h2 : b2.proper = true) (h3 : b3.proper = true) (h4 : b4.proper = true) (h5 : b5.proper = true) (K : Bool → Prop) (hK : K true) : tail6 r b0 b1 b2 b3 b4 b5 p K := by
  unfold tail6
  refine ⟨hr, inr_x h0 (by decide), fun x0 a0 c0 => ⟨hr, inr_y h0 (by decide), fun y0 d0 e0 => ⟨hr, inr_x h1 (by decide), fun x1 a1 c1 => ⟨hr, inr_y h1 (by decide), fun y1 d1 e1 => ⟨hr, inr_x h2 (by decide), fun x2 a2 c2 => ⟨hr, inr_y h2 (by decide), fun y2 d2 e2 => ⟨hr, inr_x h3 (by decide), fun x3 a3 c3 => ⟨hr, inr_y h3 (by decide), fun y3 d3 e3 => ⟨hr, inr_x h4 (by decide), fun x4 a4 c4 => ⟨hr, inr_y h4 (by decide), fun y4 d4 e4 => ⟨hr, inr_x h5 (by decide), fun x5 a5 c5 => ⟨hr, inr_y h5 (by decide), fun y5 d5 e5 => ?_⟩⟩⟩⟩⟩⟩⟩⟩⟩⟩⟩⟩
  refine ⟨Nat.le_of_ble_eq_true rfl, Nat.le_of_ble_eq_true rfl, Nat.le_of_ble_eq_true rfl, Nat.le_of_ble_eq_true rfl, ?_⟩
  have R := rings6 b0 b1 b2 b3 b4 b5 ⟨x0, y0⟩ ⟨x1, y1⟩ ⟨x2, y2⟩ ⟨x3, y3⟩ ⟨x4, y4⟩ ⟨x5, y5⟩ p h0 h1 h2 h3 h4 h5 ⟨a0, c0, d0, e0⟩ ⟨a1, c1, d1, e1⟩ ⟨a2, c2, d2, e2⟩ ⟨a3, c3, d3, e3⟩ ⟨a4, c4, d4, e4⟩ ⟨a5, c5, d5, e5⟩
  have W := winds6 ⟨x0, y0⟩ ⟨x1, y1⟩ ⟨x2, y2⟩ ⟨x3, y3⟩ ⟨x4, y4⟩ ⟨x5, y5⟩ p
  simp only [Pt.low, Pt.dot] at R W
  refine brI (fun h => ?_) (fun h => ?_)
  · exfalso
    rw [Bool.and_eq_true] at h
    obtain ⟨r1, r2, r3, r4, r5, r6⟩ := R h.1
    have h2 := h.2
    simp [r1, r2, r3, r4, r5, r6] at h2
  · have e : (!ringC [Box.mk x0 x0 y0 y0, Box.mk x1 x1 y1 y1, Box.mk x2 x2 y2 y2, Box.mk x3 x3 y3 y3, Box.mk x4 x4 y4 y4, Box.mk x5 x5 y5 y5] p || (windR [Pt.mk x0 y0, Pt.mk x1 y1, Pt.mk x2 y2, Pt.mk x3 y3, Pt.mk x4 y4, Pt.mk x5 y5] p).2 == 0 && (windR [Pt.mk x0 y0, Pt.mk x1 y1, Pt.mk x2 y2, Pt.mk x3 y3, Pt.mk x4 y4, Pt.mk x5 y5] p).1 == ringN [Box.mk x0 x0 y0 y0, Box.mk x1 x1 y1 y1, Box.mk x2 x2 y2 y2, Box.mk x3 x3 y3 y3, Box.mk x4 x4 y4 y4, Box.mk x5 x5 y5 y5] p) = true := by
      cases hd : ringC [Box.mk x0 x0 y0 y0, Box.mk x1 x1 y1 y1, Box.mk x2 x2 y2 y2, Box.mk x3 x3 y3 y3, Box.mk x4 x4 y4 y4, Box.mk x5 x5 y5 y5] p with
      | false => rfl
      | true =>
        obtain ⟨w1, w2, w3, v0, v1, v2, v3, v4, v5⟩ := W hd
        have e : windR [Pt.mk x0 y0, Pt.mk x1 y1, Pt.mk x2 y2, Pt.mk x3 y3, Pt.mk x4 y4, Pt.mk x5 y5] p = (ringN [Box.mk x0 x0 y0 y0, Box.mk x1 x1 y1 y1, Box.mk x2 x2 y2 y2, Box.mk x3 x3 y3 y3, Box.mk x4 x4 y4 y4, Box.mk x5 x5 y5 y5] p, 0) := by
          have g : windG [Pt.mk x0 y0, Pt.mk x1 y1, Pt.mk x2 y2, Pt.mk x3 y3, Pt.mk x4 y4, Pt.mk x5 y5] p 0 0 = windN [Pt.mk x0 y0, Pt.mk x1 y1, Pt.mk x2 y2, Pt.mk x3 y3, Pt.mk x4 y4, Pt.mk x5 y5] p := by rw [windN_sum (by simp [ptsE])]; simp only [windG, List.drop_zero]; omega
          simp only [windR, pointsE, w1, w3, g, w2]
          simp [v0, v1, v2, v3, v4, v5]
        rw [e]; simp
    rw [e]; exact hK
end Go.Lf
end
