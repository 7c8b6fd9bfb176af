/- By an AI agent. What is proved here: the statement WalkRingsSaid: the law of rings returns true for every input of its domain. -/
import Derived.Test.YtegoogghlakghaaGreatFl
import Derived.Test.YtegoogghlakghaaGreatFrf
import Derived.Test.YtegoogghlakghaaGreatFd
import Derived.Test.YtegoogghlakghaaGreatRows
import Derived.WalkKit
import Derived.ProofKit
import Derived.OpenShut
import Derived.ShutString
import Derived.ChangeOld
import Derived.Below
import Derived.SizedLaws
section
set_option linter.unusedVariables false
set_option linter.unusedSimpArgs false
namespace Go.Lf
open Go Go.RowKit Go.Ev Go.Sp Go.Proofs Go.Proofs.YtegoogghlakghaaGreat
/-- a law that the evaluator finds true, as a call of the machine -/
theorem law_calls {f : Nat} {xs : List V} (h : Pev cx0 f xs (.bool true)) {W : World} {args : Array Value} (hs : args.size = xs.length) (ha : VRs W noF (allG W) xs (fun i => args[i]?)) :
    Calls Tryz.prog f args W fun e W' => e = .returned (.bool true) ∧ Below W.heap.size W W' := by
  obtain ⟨_, hp⟩ := Evs.sound cx0_ok h
  have := hp 0 W (allG W) args (fun β k hk => hk) (fun k hk => hk) hs ha
  refine (callsIn_wide.1 this).mono fun e W' ⟨x, he, G', hst, hv⟩ => ?_
  simp only [VR] at hv
  subst hv
  exact ⟨he, hst.os, hst.tape, hst.output, hst.size, fun k hk => hst.old k hk⟩
def boxSh : Sh := .tst [.tst [.ti .i64, .ti .i64], .tst [.ti .i64, .ti .i64]]
theorem boxSh_has {r : List V} (h : boxSh.has r) : ∃ b : Box, r = b.cs := by
  simp only [boxSh, Sh.has, Sh.hass] at h
  obtain ⟨_, _, rfl, ⟨_, _, rfl, ⟨a, rfl, _⟩, _, _, rfl, ⟨b, rfl, _⟩, rfl⟩, _, _, rfl, ⟨_, _, rfl, ⟨c, rfl, _⟩, _, _, rfl, ⟨d, rfl, _⟩, rfl⟩, rfl⟩ := h
  exact ⟨⟨a, b, c, d⟩, rfl⟩
theorem rows_of {es : List (List V)} (h : ∀ r ∈ es, boxSh.has r) : ∃ l : List Box, es = l.map Box.cs := by
  induction es with
  | nil => exact ⟨[], rfl⟩
  | cons r es ih =>
    obtain ⟨l, rfl⟩ := ih fun r hr => h r (by simp [hr])
    obtain ⟨b, rfl⟩ := boxSh_has (h r (by simp))
    exact ⟨b :: l, rfl⟩
theorem u8_bd {n : Int} (h : (Lit.int .u8 n).wf = true) : 0 ≤ n ∧ n < 256 := by
  simp only [Lit.wf, IntKind.min, IntKind.max, IntKind.signed, IntKind.bits, Bool.and_eq_true, decide_eq_true_eq] at h
  simp at h
  omega
end Go.Lf
namespace Go.Proofs.YtegoogghlakghaaGreat.walkRings
open Go.ChangeShapes Go.WideShapes Go.ChangeAt Go.RowKit Go.Ev Go.Sp Go.Lf
theorem own : ownKnob Tryz.prog.godebug = none := by kernel_rfl
theorem laidOut : laidOutB Tryz.prog = true := by kernel_rfl
theorem law (xs : V) (p : Pt) (k : Int) (r : V) (hk : 0 ≤ k ∧ k < 256) (h : (Sh.tl 4 boxSh).has [xs]) (hr : (Sh.tl 1 (.ti .u8)).has [r]) : Pev cx0 6 [xs, .agg p.cs, .int .u8 k, r] (.bool true) := by
  have hr : RawV r := by
    simp only [Sh.has] at hr
    rcases hr with hr | ⟨es, hr, _, he⟩
    · cases hr; exact .inl rfl
    · cases hr
      exact .inr ⟨_, _, es, rfl, fun r hm => by obtain ⟨n, h1, h2⟩ := he r hm; exact ⟨n, h1, u8_bd h2⟩⟩
  simp only [Sh.has] at h
  rcases h with h | ⟨es, h, _, he⟩
  · cases h; exact law6n p k r hr
  · cases h
    obtain ⟨l, rfl⟩ := rows_of he
    exact law6 false p l k r hk hr
set_option maxRecDepth 100000 in
theorem lifted (os : Os) (started : os.Started) (H : Type) (enc : TypeId × Value → H) :
    ReturnsInHanded {} Tryz.checked os 6 .any (Rows.walkRingsSpec.pre6 enc Tryz.prog Tryz.f6 Rows.walkRingsRow.domain false) (Rows.walkRingsSpec.post enc Tryz.prog Tryz.f6 false true false false) := by
  refine returnsInHanded_of_change (C := Tryz.checked) own started (by kernel_rfl) Tryz.func6
    (ChangeSpec.witness6 (enc := enc) (C := Tryz.checked) false ⟨#[], #[.slice none 0 0, .agg #[.int .i64 0, .int .i64 0], .int .u8 0, .slice none 0 0], []⟩ 8 (by kernel_rfl) (by kernel_rfl) (by kernel_rfl) (by kernel_rfl)) ?_
  intro W base args ds gs before hval0 hW hcnd _
  have hval : ∀ (j : Nat) t v, Tryz.f6.params[j]? = some t → args[j]? = some v → Value.okWide Tryz.prog W .any base t v := hval0
  have hW' := hW
  obtain ⟨p, q, hA0, hV, rfl, hfz, hnd⟩ := hW
  have hA : DataW.TrodAll enc Tryz.prog W 0 (fun _ => true) true Tryz.f6.params.toList args.toList ds p := hA0
  rw [Tryz.params6] at hA hval
  obtain ⟨v0, vs0, d0, ds0, p0, q0, hargs, rfl, rfl, h0, r0⟩ := trodAll_cons hA
  obtain ⟨v1, vs1, d1, ds1, p1, q1, rfl, rfl, rfl, h1, r1⟩ := trodAll_cons r0
  obtain ⟨v2, vs2, d2, ds2, p2, q2, rfl, rfl, rfl, h2, r2⟩ := trodAll_cons r1
  obtain ⟨v3, vs3, d3, ds3, p3, q3, rfl, rfl, rfl, h3, r3⟩ := trodAll_cons r2
  obtain ⟨rfl, rfl, rfl⟩ := trodAll_nil r3
  obtain rfl : args = #[v0, v1, v2, v3] := by cases args; simp_all
  obtain ⟨rfl, rfl⟩ := trodVars_none hV
  obtain ⟨a0, len0, cap0, rfl⟩ := okWide_slice Tryz.underlying36 (hval 0 36 v0 rfl rfl)
  obtain ⟨c1, rfl, _⟩ := okWide_struct Tryz.underlying38 (hval 1 38 v1 rfl rfl)
  obtain ⟨n2, rfl⟩ := okWide_int Tryz.underlying5 (hval 2 5 v2 rfl rfl)
  obtain ⟨a3, len3, cap3, rfl⟩ := okWide_slice Tryz.underlying49 (hval 3 49 v3 rfl rfl)
  have k0 := h0
  have k1 := h1
  have k2 := h2
  have k3 := h3
  have lt0 : ∀ x ∈ p0, x.block < W.heap.size := by obtain ⟨m, hm⟩ := k0; exact DataW.trod_lt m _ _ _ hm
  have lt1 : ∀ x ∈ p1, x.block < W.heap.size := by obtain ⟨m, hm⟩ := k1; exact DataW.trod_lt m _ _ _ hm
  have lt2 : ∀ x ∈ p2, x.block < W.heap.size := by obtain ⟨m, hm⟩ := k2; exact DataW.trod_lt m _ _ _ hm
  have lt3 : ∀ x ∈ p3, x.block < W.heap.size := by obtain ⟨m, hm⟩ := k3; exact DataW.trod_lt m _ _ _ hm
  obtain ⟨f0, hf0⟩ := h0
  obtain ⟨f1, hf1⟩ := h1
  obtain ⟨f2, hf2⟩ := h2
  obtain ⟨f3, hf3⟩ := h3
  obtain ⟨u0, hu0, hv0⟩ := Sh.open_ok (P := Tryz.prog) (Sh.tl 4 boxSh) (t := 36) (by kernel_rfl) hf0
  obtain ⟨u1, hu1, hv1⟩ := Sh.open_ok (P := Tryz.prog) (Sh.tst [.ti .i64, .ti .i64]) (t := 38) (by kernel_rfl) hf1
  obtain ⟨u2, hu2, hv2⟩ := Sh.open_ok (P := Tryz.prog) (Sh.ti .u8) (t := 5) (by kernel_rfl) hf2
  obtain ⟨u3, hu3, hv3⟩ := Sh.open_ok (P := Tryz.prog) (Sh.tl 1 (.ti .u8)) (t := 49) (by kernel_rfl) hf3
  have hl0 := Sh.has_len hu0
  obtain ⟨x0, rfl⟩ : ∃ x, u0 = [x] := by
    match u0, hl0 with
    | [x], _ => exact ⟨x, rfl⟩
  have hl3 := Sh.has_len hu3
  obtain ⟨x3, rfl⟩ : ∃ x, u3 = [x] := by
    match u3, hl3 with
    | [x], _ => exact ⟨x, rfl⟩
  have ho1 := Sh.has_ones hu1
  obtain ⟨px, py, rfl⟩ : ∃ px py, u1 = Pt.cs ⟨px, py⟩ := by
    simp only [Sh.has, Sh.hass] at hu1
    obtain ⟨_, _, rfl, ⟨a, rfl, _⟩, _, _, rfl, ⟨b, rfl, _⟩, rfl⟩ := hu1
    exact ⟨a, b, rfl⟩
  obtain ⟨k, rfl, hwf⟩ : ∃ k, u2 = [.int .u8 k] ∧ (Lit.int .u8 k).wf = true := by
    simp only [Sh.has] at hu2
    exact hu2
  have one : ∀ {x : V} {v : Value}, VRs W noF (allG W) [x] (fun i => v.cells.toList[i]?) → v.cells = #[v] → VR W noF (allG W) x v := fun h e => by
    simp only [VRs] at h
    obtain ⟨⟨u, hu, hr⟩, _⟩ := h
    simp [e] at hu
    subst hu; exact hr
  have hvr0 : VR W noF (allG W) x0 (.slice a0 len0 cap0) := one hv0 rfl
  have hvr2 : VR W noF (allG W) (.int .u8 k) (.int .u8 n2) := one hv2 rfl
  have hvr3 : VR W noF (allG W) x3 (.slice a3 len3 cap3) := one hv3 rfl
  have hvr1 : VR W noF (allG W) (.agg (Pt.cs ⟨px, py⟩)) (.agg c1) := by
    simp only [VR]
    refine ⟨c1, rfl, ?_, ho1, by simpa [Value.cells] using hv1⟩
    obtain ⟨xs, n, _, _, hlen, _⟩ := DataW.trod_struct Tryz.underlying38 hf1
    have : c1.toList.length = Tryz.prog.cellsOf 38 := by simpa [Value.cells] using hlen
    have hc : Tryz.prog.cellsOf 38 = 2 := by kernel_rfl
    simpa [hc, Pt.cs] using this
  refine (law_calls (law x0 ⟨px, py⟩ k x3 (u8_bd hwf) hu0 hu3) (W := W) (args := #[.slice a0 len0 cap0, .agg c1, .int .u8 n2, .slice a3 len3 cap3]) rfl ?_).mono fun e W' ⟨he, bel⟩ => ?_
  · simp only [VRs]
    exact ⟨⟨_, rfl, hvr0⟩, ⟨_, rfl, hvr1⟩, ⟨_, rfl, hvr2⟩, ⟨_, rfl, hvr3⟩, trivial⟩
  subst he
  exact ⟨_, rfl, _, _, _, [], _, [], hW', trodAll_mk1 (shut_bool Tryz.underlying4 _), (trodAll_cons_mk (Below.trod laidOut (by kernel_rfl) (of_decide_eq_true (by kernel_rfl)) k0 bel lt0) (trodAll_cons_mk (Below.trod laidOut (by kernel_rfl) (of_decide_eq_true (by kernel_rfl)) k1 bel lt1) (trodAll_cons_mk (Below.trod laidOut (by kernel_rfl) (of_decide_eq_true (by kernel_rfl)) k2 bel lt2) (trodAll_cons_mk (Below.trod laidOut (by kernel_rfl) (of_decide_eq_true (by kernel_rfl)) k3 bel lt3) trodAll_mk0)))), rfl, bel.frame _, fun h => by cases h⟩
theorem over : Rows.walkRingsRow.holds Tryz.pinned (OpenSpec.ofChange Rows.walkRingsSpec) :=
  OpenClaim.holds_of_wide 6 Tryz.f6 rfl rfl rfl rfl rfl rfl rfl ⟨rfl, rfl, rfl, rfl, rfl⟩ rfl rfl rfl rfl rfl (by kernel_rfl) Tryz.func6 facts
    (of_decide_eq_true (by kernel_rfl)) (by unfold Func.isWrapper; first | (rw [if_pos (by decide +kernel)]; kernel_rfl) | (rw [if_neg (by decide +kernel)]; exact ⟨rfl, rfl⟩))
    (fun os started H enc _ => lifted os started H enc)
theorem proved : Rows.WalkRingsSaid := over
end Go.Proofs.YtegoogghlakghaaGreat.walkRings
end
namespace Go.Proofs.YtegoogghlakghaaGreat
theorem walkRings_holds : Rows.WalkRingsSaid := walkRings.proved
end Go.Proofs.YtegoogghlakghaaGreat
