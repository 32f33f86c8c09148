/- The kernel runs calls and finds the results that the data tell. -/
import Derived.Test.YtijdeokebjoboaaGreatDoorData
set_option linter.unusedVariables false
set_option linter.unusedSimpArgs false
set_option linter.unusedSectionVars false
set_option linter.unnecessarySimpa false
set_option maxHeartbeats 0
set_option maxRecDepth 1000000
namespace Go.Proofs.YtijdeokebjoboaaGreatDoor
open Go Go.Pi
theorem ok0_109 : chk0 rows0_109 = true := by decide +kernel
theorem ok0_27 : chk0 rows0_27 = true := by decide +kernel
theorem ok0_58 : chk0 rows0_58 = true := by decide +kernel
theorem ok0_115 : chk0 rows0_115 = true := by decide +kernel
theorem ok0_93 : chk0 rows0_93 = true := by decide +kernel
theorem ok0_64 : chk0 rows0_64 = true := by decide +kernel
theorem ok0_102 : chk0 rows0_102 = true := by decide +kernel
theorem ok0_43 : chk0 rows0_43 = true := by decide +kernel
theorem ok0_117 : chk0 rows0_117 = true := by decide +kernel
theorem ok0_103 : chk0 rows0_103 = true := by decide +kernel
theorem ok0_65 : chk0 rows0_65 = true := by decide +kernel
theorem ok0_63 : chk0 rows0_63 = true := by decide +kernel
theorem ok0_126 : chk0 rows0_126 = true := by decide +kernel
theorem ok0_127 : chk0 rows0_127 = true := by decide +kernel
theorem ok0_80 : chk0 rows0_80 = true := by decide +kernel
theorem ok0_144 : chk0 rows0_144 = true := by decide +kernel
theorem ok0_111 : chk0 rows0_111 = true := by decide +kernel
theorem ok0_112 : chk0 rows0_112 = true := by decide +kernel
theorem ok0_118 : chk0 rows0_118 = true := by decide +kernel
theorem ok0_82 : chk0 rows0_82 = true := by decide +kernel
theorem ok0_68 : chk0 rows0_68 = true := by decide +kernel
theorem ok0_99 : chk0 rows0_99 = true := by decide +kernel
theorem ok0_60 : chk0 rows0_60 = true := by decide +kernel
theorem ok0_24 : chk0 rows0_24 = true := by decide +kernel
theorem ok0_85 : chk0 rows0_85 = true := by decide +kernel
theorem ok0_49 : chk0 rows0_49 = true := by decide +kernel
theorem ok0_66 : chk0 rows0_66 = true := by decide +kernel
theorem ok0_96 : chk0 rows0_96 = true := by decide +kernel
theorem ok0_140 : chk0 rows0_140 = true := by decide +kernel
theorem ok0_184 : chk0 rows0_184 = true := by decide +kernel
theorem ok0_164 : chk0 rows0_164 = true := by decide +kernel
theorem ok0_139 : chk0 rows0_139 = true := by decide +kernel
theorem ok0_142 : chk0 rows0_142 = true := by decide +kernel
theorem ok0_30 : chk0 rows0_30 = true := by decide +kernel
theorem ok0_121 : chk0 rows0_121 = true := by decide +kernel
theorem ok0_143 : chk0 rows0_143 = true := by decide +kernel
theorem ok0_94 : chk0 rows0_94 = true := by decide +kernel
theorem ok0_148 : chk0 rows0_148 = true := by decide +kernel
theorem ok0_114 : chk0 rows0_114 = true := by decide +kernel
theorem ok0_87 : chk0 rows0_87 = true := by decide +kernel
theorem ok0_54 : chk0 rows0_54 = true := by decide +kernel
theorem ok0_41 : chk0 rows0_41 = true := by decide +kernel
theorem ok0_101 : chk0 rows0_101 = true := by decide +kernel
theorem ok0_22 : chk0 rows0_22 = true := by decide +kernel
theorem ok0_116 : chk0 rows0_116 = true := by decide +kernel
theorem ok0_39 : chk0 rows0_39 = true := by decide +kernel
theorem ok0_92 : chk0 rows0_92 = true := by decide +kernel
theorem ok0_56 : chk0 rows0_56 = true := by decide +kernel
theorem ok0_40 : chk0 rows0_40 = true := by decide +kernel
theorem ok0_73 : chk0 rows0_73 = true := by decide +kernel
theorem ok0_36 : chk0 rows0_36 = true := by decide +kernel
theorem ok0_37 : chk0 rows0_37 = true := by decide +kernel
theorem ok0_25 : chk0 rows0_25 = true := by decide +kernel
theorem ok0_11 : chk0 rows0_11 = true := by decide +kernel
theorem ok0_42 : chk0 rows0_42 = true := by decide +kernel
theorem ok0_44 : chk0 rows0_44 = true := by decide +kernel
theorem ok0_13 : chk0 rows0_13 = true := by decide +kernel
theorem ok0_81 : chk0 rows0_81 = true := by decide +kernel
theorem ok0_84 : chk0 rows0_84 = true := by decide +kernel
theorem ok0_119 : chk0 rows0_119 = true := by decide +kernel
theorem ok0_83 : chk0 rows0_83 = true := by decide +kernel
theorem ok0_14 : chk0 rows0_14 = true := by decide +kernel
theorem ok0_193 : chk0 rows0_193 = true := by decide +kernel
theorem ok0_172 : chk0 rows0_172 = true := by decide +kernel
theorem ok0_149 : chk0 rows0_149 = true := by decide +kernel
theorem ok0_122 : chk0 rows0_122 = true := by decide +kernel
theorem ok0_124 : chk0 rows0_124 = true := by decide +kernel
theorem ok0_125 : chk0 rows0_125 = true := by decide +kernel
theorem ok0_12 : chk0 rows0_12 = true := by decide +kernel
theorem ok0_100 : chk0 rows0_100 = true := by decide +kernel
theorem ok0_147 : chk0 rows0_147 = true := by decide +kernel
theorem ok0_78 : chk0 rows0_78 = true := by decide +kernel
theorem ok0_4 : chk0 rows0_4 = true := by decide +kernel
end Go.Proofs.YtijdeokebjoboaaGreatDoor
