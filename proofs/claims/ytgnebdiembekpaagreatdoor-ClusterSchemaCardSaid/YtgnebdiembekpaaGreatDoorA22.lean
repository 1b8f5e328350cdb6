import Derived.Test.YtgnebdiembekpaaGreatDoorA6
import Derived.Test.YtgnebdiembekpaaGreatDoorA18
import Derived.Test.YtgnebdiembekpaaGreatDoorProg
import Derived.KernelRfl
/- Part of the proof: the abstract evaluator, its soundness, its runs: AeP1b -/
set_option linter.unusedSectionVars false
set_option linter.unusedSimpArgs false
set_option linter.unusedVariables false
set_option linter.unnecessarySimpa false
namespace Go.AE.Tb
open Go.AE Go.Proofs
theorem ok134 : irOf Tryz.prog 134 = some ir134 := by kernel_rfl
theorem ok135 : irOf Tryz.prog 135 = some ir135 := by kernel_rfl
theorem ok144 : irOf Tryz.prog 144 = some ir144 := by kernel_rfl
theorem ok146 : irOf Tryz.prog 146 = some ir146 := by kernel_rfl
theorem ok153 : irOf Tryz.prog 153 = some ir153 := by kernel_rfl
theorem ok154 : irOf Tryz.prog 154 = some ir154 := by kernel_rfl
theorem ok155 : irOf Tryz.prog 155 = some ir155 := by kernel_rfl
theorem ok156 : irOf Tryz.prog 156 = some ir156 := by kernel_rfl
theorem ok157 : irOf Tryz.prog 157 = some ir157 := by kernel_rfl
theorem ok158 : irOf Tryz.prog 158 = some ir158 := by kernel_rfl
theorem ok159 : irOf Tryz.prog 159 = some ir159 := by kernel_rfl
theorem ok160 : irOf Tryz.prog 160 = some ir160 := by kernel_rfl
theorem ok164 : irOf Tryz.prog 164 = some ir164 := by kernel_rfl
theorem ok186 : irOf Tryz.prog 186 = some ir186 := by kernel_rfl
theorem ok188 : irOf Tryz.prog 188 = some ir188 := by kernel_rfl
theorem ok189 : irOf Tryz.prog 189 = some ir189 := by kernel_rfl
theorem ok190 : irOf Tryz.prog 190 = some ir190 := by kernel_rfl
theorem ok191 : irOf Tryz.prog 191 = some ir191 := by kernel_rfl
theorem ok192 : irOf Tryz.prog 192 = some ir192 := by kernel_rfl
theorem ok193 : irOf Tryz.prog 193 = some ir193 := by kernel_rfl
theorem ok194 : irOf Tryz.prog 194 = some ir194 := by kernel_rfl
theorem ok195 : irOf Tryz.prog 195 = some ir195 := by kernel_rfl
theorem ok196 : irOf Tryz.prog 196 = some ir196 := by kernel_rfl
theorem ok197 : irOf Tryz.prog 197 = some ir197 := by kernel_rfl
theorem ok198 : irOf Tryz.prog 198 = some ir198 := by kernel_rfl
theorem ok201 : irOf Tryz.prog 201 = some ir201 := by kernel_rfl
theorem ok203 : irOf Tryz.prog 203 = some ir203 := by kernel_rfl
theorem ok204 : irOf Tryz.prog 204 = some ir204 := by kernel_rfl
theorem ok208 : irOf Tryz.prog 208 = some ir208 := by kernel_rfl
theorem ok209 : irOf Tryz.prog 209 = some ir209 := by kernel_rfl
theorem ok210 : irOf Tryz.prog 210 = some ir210 := by kernel_rfl
theorem ok225 : irOf Tryz.prog 225 = some ir225 := by kernel_rfl
theorem ok226 : irOf Tryz.prog 226 = some ir226 := by kernel_rfl
theorem ok234 : irOf Tryz.prog 234 = some ir234 := by kernel_rfl
theorem ok247 : irOf Tryz.prog 247 = some ir247 := by kernel_rfl
theorem ok248 : irOf Tryz.prog 248 = some ir248 := by kernel_rfl
theorem ok249 : irOf Tryz.prog 249 = some ir249 := by kernel_rfl
theorem ok250 : irOf Tryz.prog 250 = some ir250 := by kernel_rfl
theorem ok251 : irOf Tryz.prog 251 = some ir251 := by kernel_rfl
theorem ok260 : irOf Tryz.prog 260 = some ir260 := by kernel_rfl
theorem ok261 : irOf Tryz.prog 261 = some ir261 := by kernel_rfl
theorem ok265 : irOf Tryz.prog 265 = some ir265 := by kernel_rfl
theorem ok267 : irOf Tryz.prog 267 = some ir267 := by kernel_rfl
theorem ok288 : irOf Tryz.prog 288 = some ir288 := by kernel_rfl
theorem ok289 : irOf Tryz.prog 289 = some ir289 := by kernel_rfl
theorem ok291 : irOf Tryz.prog 291 = some ir291 := by kernel_rfl
theorem ok292 : irOf Tryz.prog 292 = some ir292 := by kernel_rfl
theorem ok293 : irOf Tryz.prog 293 = some ir293 := by kernel_rfl
theorem ok294 : irOf Tryz.prog 294 = some ir294 := by kernel_rfl
theorem ok297 : irOf Tryz.prog 297 = some ir297 := by kernel_rfl
theorem ok298 : irOf Tryz.prog 298 = some ir298 := by kernel_rfl
theorem ok300 : irOf Tryz.prog 300 = some ir300 := by kernel_rfl
theorem ok301 : irOf Tryz.prog 301 = some ir301 := by kernel_rfl
theorem ok304 : irOf Tryz.prog 304 = some ir304 := by kernel_rfl
theorem ok305 : irOf Tryz.prog 305 = some ir305 := by kernel_rfl
theorem ok306 : irOf Tryz.prog 306 = some ir306 := by kernel_rfl
theorem ok307 : irOf Tryz.prog 307 = some ir307 := by kernel_rfl
theorem ok308 : irOf Tryz.prog 308 = some ir308 := by kernel_rfl
theorem ok309 : irOf Tryz.prog 309 = some ir309 := by kernel_rfl
theorem ok312 : irOf Tryz.prog 312 = some ir312 := by kernel_rfl
theorem ok313 : irOf Tryz.prog 313 = some ir313 := by kernel_rfl
end Go.AE.Tb
