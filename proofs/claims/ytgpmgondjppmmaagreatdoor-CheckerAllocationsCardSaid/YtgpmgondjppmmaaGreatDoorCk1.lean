/- The kernel runs calls and finds the results that the data tell. -/
import Derived.Test.YtgpmgondjppmmaaGreatDoorData
set_option linter.unusedSectionVars false
set_option linter.unusedSimpArgs false
set_option linter.unusedVariables false
set_option maxHeartbeats 0
set_option maxRecDepth 1000000
namespace Go.Proofs.YtgpmgondjppmmaaGreatDoor
open Go Go.Pi
theorem ok0_122:chk0 rows0_122 = true := by decide +kernel
theorem ok0_67:chk0 rows0_67 = true := by decide +kernel
theorem ok0_90:chk0 rows0_90 = true := by decide +kernel
theorem ok0_127:chk0 rows0_127 = true := by decide +kernel
theorem ok0_128:chk0 rows0_128 = true := by decide +kernel
theorem ok0_103:chk0 rows0_103 = true := by decide +kernel
theorem ok0_144:chk0 rows0_144 = true := by decide +kernel
theorem ok0_53:chk0 rows0_53 = true := by decide +kernel
theorem ok0_130:chk0 rows0_130 = true := by decide +kernel
theorem ok0_108:chk0 rows0_108 = true := by decide +kernel
theorem ok0_104:chk0 rows0_104 = true := by decide +kernel
theorem ok0_75:chk0 rows0_75 = true := by decide +kernel
theorem ok0_159:chk0 rows0_159 = true := by decide +kernel
theorem ok0_160:chk0 rows0_160 = true := by decide +kernel
theorem ok0_92:chk0 rows0_92 = true := by decide +kernel
theorem ok0_146:chk0 rows0_146 = true := by decide +kernel
theorem ok0_71:chk0 rows0_71 = true := by decide +kernel
theorem ok0_72:chk0 rows0_72 = true := by decide +kernel
theorem ok0_131:chk0 rows0_131 = true := by decide +kernel
theorem ok0_94:chk0 rows0_94 = true := by decide +kernel
theorem ok0_109:chk0 rows0_109 = true := by decide +kernel
theorem ok0_142:chk0 rows0_142 = true := by decide +kernel
theorem ok0_102:chk0 rows0_102 = true := by decide +kernel
theorem ok0_77:chk0 rows0_77 = true := by decide +kernel
theorem ok0_124:chk0 rows0_124 = true := by decide +kernel
theorem ok0_86:chk0 rows0_86 = true := by decide +kernel
theorem ok0_105:chk0 rows0_105 = true := by decide +kernel
theorem ok0_139:chk0 rows0_139 = true := by decide +kernel
theorem ok0_173:chk0 rows0_173 = true := by decide +kernel
theorem ok0_161:chk0 rows0_161 = true := by decide +kernel
theorem ok0_133:chk0 rows0_133 = true := by decide +kernel
theorem ok0_97:chk0 rows0_97 = true := by decide +kernel
theorem ok0_175:chk0 rows0_175 = true := by decide +kernel
theorem ok0_87:chk0 rows0_87 = true := by decide +kernel
theorem ok0_111:chk0 rows0_111 = true := by decide +kernel
theorem ok0_176:chk0 rows0_176 = true := by decide +kernel
theorem ok0_106:chk0 rows0_106 = true := by decide +kernel
theorem ok0_158:chk0 rows0_158 = true := by decide +kernel
theorem ok0_126:chk0 rows0_126 = true := by decide +kernel
theorem ok0_74:chk0 rows0_74 = true := by decide +kernel
theorem ok0_35:chk0 rows0_35 = true := by decide +kernel
theorem ok0_51:chk0 rows0_51 = true := by decide +kernel
theorem ok0_143:chk0 rows0_143 = true := by decide +kernel
theorem ok0_57:chk0 rows0_57 = true := by decide +kernel
theorem ok0_129:chk0 rows0_129 = true := by decide +kernel
theorem ok0_49:chk0 rows0_49 = true := by decide +kernel
theorem ok0_76:chk0 rows0_76 = true := by decide +kernel
theorem ok0_36:chk0 rows0_36 = true := by decide +kernel
theorem ok0_50:chk0 rows0_50 = true := by decide +kernel
theorem ok0_82:chk0 rows0_82 = true := by decide +kernel
theorem ok0_46:chk0 rows0_46 = true := by decide +kernel
theorem ok0_47:chk0 rows0_47 = true := by decide +kernel
theorem ok0_40:chk0 rows0_40 = true := by decide +kernel
theorem ok0_17:chk0 rows0_17 = true := by decide +kernel
theorem ok0_52:chk0 rows0_52 = true := by decide +kernel
theorem ok0_54:chk0 rows0_54 = true := by decide +kernel
theorem ok0_19:chk0 rows0_19 = true := by decide +kernel
theorem ok0_93:chk0 rows0_93 = true := by decide +kernel
theorem ok0_96:chk0 rows0_96 = true := by decide +kernel
theorem ok0_132:chk0 rows0_132 = true := by decide +kernel
theorem ok0_95:chk0 rows0_95 = true := by decide +kernel
theorem ok0_20:chk0 rows0_20 = true := by decide +kernel
theorem ok0_198:chk0 rows0_198 = true := by decide +kernel
theorem ok0_178:chk0 rows0_178 = true := by decide +kernel
theorem ok0_147:chk0 rows0_147 = true := by decide +kernel
theorem ok0_112:chk0 rows0_112 = true := by decide +kernel
theorem ok0_114:chk0 rows0_114 = true := by decide +kernel
theorem ok0_115:chk0 rows0_115 = true := by decide +kernel
theorem ok0_18:chk0 rows0_18 = true := by decide +kernel
theorem ok0_110:chk0 rows0_110 = true := by decide +kernel
theorem ok0_157:chk0 rows0_157 = true := by decide +kernel
theorem ok0_89:chk0 rows0_89 = true := by decide +kernel
theorem ok0_4:chk0 rows0_4 = true := by decide +kernel
end Go.Proofs.YtgpmgondjppmmaaGreatDoor
