/- By an AI agent. What is proved here: the facts of the row of the law of rounds, each by itself. -/
import Derived.Test.YtegoogghlakghaaGreatRows
import Derived.ProofKit
section
set_option linter.unusedVariables false
set_option linter.unusedSimpArgs false
namespace Go.Proofs.YtegoogghlakghaaGreat.walkRounds
theorem and_mk {a b : Bool} (ha : a = true) (hb : b = true) : (a && b) = true := by rw [ha, hb]; rfl
theorem k0 : (Rows.walkRoundsRow.wf (OpenSpec.ofChange Rows.walkRoundsSpec) : Bool) = true := by kernel_rfl
theorem k1 : (laidOutB Tryz.pinned.checked.prog : Bool) = true := by kernel_rfl
theorem k2 : (mapsRowed Tryz.pinned.checked.prog : Bool) = true := by kernel_rfl
theorem k3 : (Tryz.f4.params.all (Tryz.pinned.checked.prog.readableRec ·) : Bool) = true := by kernel_rfl
theorem k4 : (namedTie Tryz.pinned.checked.prog Rows.walkRoundsRow.named Rows.walkRoundsSpec.vars : Bool) = true := by kernel_rfl
theorem k5 : ((Rows.walkRoundsRow.stops == []) : Bool) = true := by kernel_rfl
theorem k6 : ((Tryz.pinned.checked.prog.stops == []) : Bool) = true := by kernel_rfl
theorem k7 : ((Rows.walkRoundsRow.knobs == []) : Bool) = true := by kernel_rfl
theorem k8 : ((Tryz.pinned.checked.prog.stopKnobs == []) : Bool) = true := by kernel_rfl
theorem k9 : ((Rows.walkRoundsRow.inPlace == Tryz.pinned.checked.prog.inPlace 4) : Bool) = true := by kernel_rfl
theorem k10 : ((Rows.walkRoundsRow.unfollowed == Tryz.pinned.checked.prog.unfollowed 4) : Bool) = true := by kernel_rfl
theorem k11 : ((Rows.walkRoundsRow.recurses == Tryz.pinned.checked.prog.recurses 4) : Bool) = true := by kernel_rfl
theorem k12 : ((Rows.walkRoundsRow.named == Tryz.pinned.checked.prog.varsNamed 4) : Bool) = true := by kernel_rfl
theorem k13 : ((Rows.walkRoundsRow.maps == (Tryz.f4.params.toList ++ Rows.walkRoundsSpec.plain.varTypes Tryz.pinned.checked.prog).any (Tryz.pinned.checked.prog.mapsRec ·)) : Bool) = true := by kernel_rfl
theorem k14 : ((Rows.walkRoundsRow.ifaces == (Tryz.f4.params.toList ++ Rows.walkRoundsSpec.plain.varTypes Tryz.pinned.checked.prog).any (Tryz.pinned.checked.prog.ifacesRec ·)) : Bool) = true := by kernel_rfl
theorem k15 : ((Rows.walkRoundsRow.mapsOut == Tryz.pinned.checked.prog.mapsAmong Tryz.f4.resultTypes.toList) : Bool) = true := by kernel_rfl
theorem k16 : ((Rows.walkRoundsRow.loops == (Tryz.f4.params.toList ++ Rows.walkRoundsSpec.plain.varTypes Tryz.pinned.checked.prog).any (Tryz.pinned.checked.prog.loopsFrom ·)) : Bool) = true := by kernel_rfl
theorem k17 : ((Rows.walkRoundsRow.wideKeys == (Tryz.f4.params.toList ++ Rows.walkRoundsSpec.plain.varTypes Tryz.pinned.checked.prog ++ Tryz.f4.resultTypes.toList).any (Tryz.pinned.checked.prog.wideKeysFrom ·)) : Bool) = true := by kernel_rfl
theorem k18 : (Rows.walkRoundsSpec.vars.all (Tryz.pinned.checked.prog.varReadable ·) : Bool) = true := by kernel_rfl
theorem k19 : (Tryz.f4.resultTypes.all (fun t => Tryz.pinned.checked.prog.readableRec t && decide (t < Tryz.pinned.checked.prog.types.size)) : Bool) = true := by kernel_rfl
theorem k20 : ((Rows.walkRoundsRow.ifacesOut == Tryz.f4.resultTypes.toList.any (Tryz.pinned.checked.prog.ifacesRec ·)) : Bool) = true := by kernel_rfl
theorem k21 : ((Rows.walkRoundsRow.loopsOut == Tryz.f4.resultTypes.toList.any (Tryz.pinned.checked.prog.loopsFrom ·)) : Bool) = true := by kernel_rfl
theorem k22 : ((Rows.walkRoundsRow.plainKeys == Tryz.pinned.checked.prog.plainKeys) : Bool) = true := by kernel_rfl
theorem k23 : (Rows.walkRoundsRow.shortTexts.isNone : Bool) = true := by kernel_rfl
theorem k24 : (Tryz.pinned.checked.prog.stopsHeard : Bool) = true := by kernel_rfl
theorem k25 : (Tryz.pinned.checked.prog.mayEnter : Bool) = true := by kernel_rfl
theorem k26 : ((Rows.walkRoundsRow.lifted == Tryz.pinned.checked.prog.liftsFinal) : Bool) = true := by kernel_rfl
theorem k27 : ((Tryz.pinned.checked.prog.make == some Rows.walkRoundsRow.make) : Bool) = true := by kernel_rfl
theorem k28 : ((Rows.walkRoundsRow.kinds == (if Rows.walkRoundsRow.domain.isEmpty then [] else Tryz.f4.params.toList.map fun t => match Tryz.pinned.checked.prog.underlying t with | some (.int k) => some k | _ => none)) : Bool) = true := by kernel_rfl
theorem k29 : ((Rows.walkRoundsRow.pinned == Rows.walkRoundsRow.pinnedBy) : Bool) = true := by kernel_rfl
theorem k30 : ((Rows.walkRoundsRow.veiled == (Tryz.f4.params.toList ++ Rows.walkRoundsSpec.plain.varTypes Tryz.pinned.checked.prog ++ Tryz.f4.resultTypes.toList).any (Tryz.pinned.checked.prog.veiledRec ·)) : Bool) = true := by kernel_rfl
theorem k31 : (Rows.walkRoundsRow.veiledFits Tryz.pinned.checked.prog Tryz.f4.params.toList (Tryz.f4.params.toList ++ Rows.walkRoundsSpec.plain.varTypes Tryz.pinned.checked.prog ++ Tryz.f4.resultTypes.toList) : Bool) = true := by kernel_rfl
set_option maxRecDepth 100000 in
theorem facts : joinedFacts Tryz.pinned.checked.prog 4 Tryz.f4 Rows.walkRoundsSpec Rows.walkRoundsRow = true := by
  unfold joinedFacts
  exact (and_mk (and_mk (and_mk (and_mk (and_mk (and_mk (and_mk (and_mk (and_mk (and_mk (and_mk (and_mk (and_mk (and_mk (and_mk (and_mk (and_mk (and_mk (and_mk (and_mk (and_mk (and_mk (and_mk (and_mk (and_mk (and_mk (and_mk (and_mk (and_mk (and_mk (and_mk k0 k1) k2) k3) k4) k5) k6) k7) k8) k9) k10) k11) k12) k13) k14) k15) k16) k17) k18) k19) k20) k21) k22) k23) k24) k25) k26) k27) k28) k29) k30) k31)
end Go.Proofs.YtegoogghlakghaaGreat.walkRounds
end
