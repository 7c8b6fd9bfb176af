/- By an AI agent. What is proved here: the facts of the row of the law of rings, each by itself. -/
import Derived.Test.YtegoogghlakghaaGreatRows
import Derived.ProofKit
section
set_option linter.unusedVariables false
set_option linter.unusedSimpArgs false
namespace Go.Proofs.YtegoogghlakghaaGreat.walkRings
theorem and_mk {a b : Bool} (ha : a = true) (hb : b = true) : (a && b) = true := by rw [ha, hb]; rfl
theorem k0 : (Rows.walkRingsRow.wf (OpenSpec.ofChange Rows.walkRingsSpec) : Bool) = true := by kernel_rfl
theorem k1 : (laidOutB Tryz.pinned.checked.prog : Bool) = true := by kernel_rfl
theorem k2 : (mapsRowed Tryz.pinned.checked.prog : Bool) = true := by kernel_rfl
theorem k3 : (Tryz.f6.params.all (Tryz.pinned.checked.prog.readableRec ·) : Bool) = true := by kernel_rfl
theorem k4 : (namedTie Tryz.pinned.checked.prog Rows.walkRingsRow.named Rows.walkRingsSpec.vars : Bool) = true := by kernel_rfl
theorem k5 : ((Rows.walkRingsRow.stops == []) : Bool) = true := by kernel_rfl
theorem k6 : ((Tryz.pinned.checked.prog.stops == []) : Bool) = true := by kernel_rfl
theorem k7 : ((Rows.walkRingsRow.knobs == []) : Bool) = true := by kernel_rfl
theorem k8 : ((Tryz.pinned.checked.prog.stopKnobs == []) : Bool) = true := by kernel_rfl
theorem k9 : ((Rows.walkRingsRow.inPlace == Tryz.pinned.checked.prog.inPlace 6) : Bool) = true := by kernel_rfl
theorem k10 : ((Rows.walkRingsRow.unfollowed == Tryz.pinned.checked.prog.unfollowed 6) : Bool) = true := by kernel_rfl
theorem k11 : ((Rows.walkRingsRow.recurses == Tryz.pinned.checked.prog.recurses 6) : Bool) = true := by kernel_rfl
theorem k12 : ((Rows.walkRingsRow.named == Tryz.pinned.checked.prog.varsNamed 6) : Bool) = true := by kernel_rfl
theorem k13 : ((Rows.walkRingsRow.maps == (Tryz.f6.params.toList ++ Rows.walkRingsSpec.plain.varTypes Tryz.pinned.checked.prog).any (Tryz.pinned.checked.prog.mapsRec ·)) : Bool) = true := by kernel_rfl
theorem k14 : ((Rows.walkRingsRow.ifaces == (Tryz.f6.params.toList ++ Rows.walkRingsSpec.plain.varTypes Tryz.pinned.checked.prog).any (Tryz.pinned.checked.prog.ifacesRec ·)) : Bool) = true := by kernel_rfl
theorem k15 : ((Rows.walkRingsRow.mapsOut == Tryz.pinned.checked.prog.mapsAmong Tryz.f6.resultTypes.toList) : Bool) = true := by kernel_rfl
theorem k16 : ((Rows.walkRingsRow.loops == (Tryz.f6.params.toList ++ Rows.walkRingsSpec.plain.varTypes Tryz.pinned.checked.prog).any (Tryz.pinned.checked.prog.loopsFrom ·)) : Bool) = true := by kernel_rfl
theorem k17 : ((Rows.walkRingsRow.wideKeys == (Tryz.f6.params.toList ++ Rows.walkRingsSpec.plain.varTypes Tryz.pinned.checked.prog ++ Tryz.f6.resultTypes.toList).any (Tryz.pinned.checked.prog.wideKeysFrom ·)) : Bool) = true := by kernel_rfl
theorem k18 : (Rows.walkRingsSpec.vars.all (Tryz.pinned.checked.prog.varReadable ·) : Bool) = true := by kernel_rfl
theorem k19 : (Tryz.f6.resultTypes.all (fun t => Tryz.pinned.checked.prog.readableRec t && decide (t < Tryz.pinned.checked.prog.types.size)) : Bool) = true := by kernel_rfl
theorem k20 : ((Rows.walkRingsRow.ifacesOut == Tryz.f6.resultTypes.toList.any (Tryz.pinned.checked.prog.ifacesRec ·)) : Bool) = true := by kernel_rfl
theorem k21 : ((Rows.walkRingsRow.loopsOut == Tryz.f6.resultTypes.toList.any (Tryz.pinned.checked.prog.loopsFrom ·)) : Bool) = true := by kernel_rfl
theorem k22 : ((Rows.walkRingsRow.plainKeys == Tryz.pinned.checked.prog.plainKeys) : Bool) = true := by kernel_rfl
theorem k23 : (Rows.walkRingsRow.shortTexts.isNone : Bool) = true := by kernel_rfl
theorem k24 : (Tryz.pinned.checked.prog.stopsHeard : Bool) = true := by kernel_rfl
theorem k25 : (Tryz.pinned.checked.prog.mayEnter : Bool) = true := by kernel_rfl
theorem k26 : ((Rows.walkRingsRow.lifted == Tryz.pinned.checked.prog.liftsFinal) : Bool) = true := by kernel_rfl
theorem k27 : ((Tryz.pinned.checked.prog.make == some Rows.walkRingsRow.make) : Bool) = true := by kernel_rfl
theorem k28 : ((Rows.walkRingsRow.kinds == (if Rows.walkRingsRow.domain.isEmpty then [] else Tryz.f6.params.toList.map fun t => match Tryz.pinned.checked.prog.underlying t with | some (.int k) => some k | _ => none)) : Bool) = true := by kernel_rfl
theorem k29 : ((Rows.walkRingsRow.pinned == Rows.walkRingsRow.pinnedBy) : Bool) = true := by kernel_rfl
theorem k30 : ((Rows.walkRingsRow.veiled == (Tryz.f6.params.toList ++ Rows.walkRingsSpec.plain.varTypes Tryz.pinned.checked.prog ++ Tryz.f6.resultTypes.toList).any (Tryz.pinned.checked.prog.veiledRec ·)) : Bool) = true := by kernel_rfl
theorem k31 : (Rows.walkRingsRow.veiledFits Tryz.pinned.checked.prog Tryz.f6.params.toList (Tryz.f6.params.toList ++ Rows.walkRingsSpec.plain.varTypes Tryz.pinned.checked.prog ++ Tryz.f6.resultTypes.toList) : Bool) = true := by kernel_rfl
set_option maxRecDepth 100000 in
theorem facts : joinedFacts Tryz.pinned.checked.prog 6 Tryz.f6 Rows.walkRingsSpec Rows.walkRingsRow = true := by
  unfold joinedFacts
  exact (and_mk (and_mk (and_mk (and_mk (and_mk (and_mk (and_mk (and_mk (and_mk (and_mk (and_mk (and_mk (and_mk (and_mk (and_mk (and_mk (and_mk (and_mk (and_mk (and_mk (and_mk (and_mk (and_mk (and_mk (and_mk (and_mk (and_mk (and_mk (and_mk (and_mk (and_mk k0 k1) k2) k3) k4) k5) k6) k7) k8) k9) k10) k11) k12) k13) k14) k15) k16) k17) k18) k19) k20) k21) k22) k23) k24) k25) k26) k27) k28) k29) k30) k31)
end Go.Proofs.YtegoogghlakghaaGreat.walkRings
end
