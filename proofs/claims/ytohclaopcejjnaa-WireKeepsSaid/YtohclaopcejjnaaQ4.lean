import Derived.Test.YtohclaopcejjnaaRows
import Derived.SizedLaws
namespace Go.Proofs.Ytohclaopcejjnaa.G
open Go
theorem pf_laid : (laidOutB Try.prog) = true := by kernel_rfl
theorem pf_maps : (mapsRowed Try.prog) = true := by kernel_rfl
theorem pf_stops : ((Try.prog.stops == [])) = true := by kernel_rfl
theorem pf_knobs : ((Try.prog.stopKnobs == [])) = true := by kernel_rfl
theorem pf_heard : (Try.prog.stopsHeard) = true := by kernel_rfl
theorem pf_enter : (Try.prog.mayEnter) = true := by kernel_rfl
end Go.Proofs.Ytohclaopcejjnaa.G
