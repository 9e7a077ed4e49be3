/- The standard's example, by the kernel. -/
import Derived.Test.YtmcenocmilhekaaAeP
namespace Go.Proofs.Ytmcenocmilhekaa
set_option linter.unusedVariables false
open Go.RowKit Go.My Go.Aes

theorem speaks_plain : blockL (keyN (List.range 32) 52) ((List.range 16).map fun i => 17 * i) = [0x8e, 0xa2, 0xb7, 0xca, 0x51, 0x67, 0x45, 0xbf, 0xea, 0xfc, 0x49, 0x90, 0x4b, 0x49, 0x60, 0x89] := by decide +kernel
end Go.Proofs.Ytmcenocmilhekaa
