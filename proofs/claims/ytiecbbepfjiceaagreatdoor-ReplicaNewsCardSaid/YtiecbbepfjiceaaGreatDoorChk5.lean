/-
  The code of part 5 is the program's.
  The code of part 6 is the program's.
  The code of part 7 is the program's.
-/
import Derived.Test.YtiecbbepfjiceaaGreatDoorProg
import Derived.Test.YtiecbbepfjiceaaGreatDoorLit2
import Derived.KernelRfl
set_option linter.unusedVariables false
set_option linter.unusedSimpArgs false
namespace Go.Proofs.YtiecbbepfjiceaaGreatDoor
open Go.Clean
theorem h163 : compFunc Tryz.prog ⟨261, 178, some (100, 58)⟩ 163 = some c163 := by kernel_rfl
theorem h164 : compFunc Tryz.prog ⟨261, 178, some (100, 58)⟩ 164 = some c164 := by kernel_rfl
theorem h168 : compFunc Tryz.prog ⟨261, 178, some (100, 58)⟩ 168 = some c168 := by kernel_rfl
theorem h169 : compFunc Tryz.prog ⟨261, 178, some (100, 58)⟩ 169 = some c169 := by kernel_rfl
theorem h171 : compFunc Tryz.prog ⟨261, 178, some (100, 58)⟩ 171 = some c171 := by kernel_rfl
theorem h173 : compFunc Tryz.prog ⟨261, 178, some (100, 58)⟩ 173 = some c173 := by kernel_rfl
theorem h176 : compFunc Tryz.prog ⟨261, 178, some (100, 58)⟩ 176 = some c176 := by kernel_rfl
theorem h179 : compFunc Tryz.prog ⟨261, 178, some (100, 58)⟩ 179 = some c179 := by kernel_rfl
theorem h196 : compFunc Tryz.prog ⟨261, 178, some (100, 58)⟩ 196 = some c196 := by kernel_rfl
theorem h197 : compFunc Tryz.prog ⟨261, 178, some (100, 58)⟩ 197 = some c197 := by kernel_rfl
theorem h198 : compFunc Tryz.prog ⟨261, 178, some (100, 58)⟩ 198 = some c198 := by kernel_rfl
theorem h202 : compFunc Tryz.prog ⟨261, 178, some (100, 58)⟩ 202 = some c202 := by kernel_rfl
theorem h203 : compFunc Tryz.prog ⟨261, 178, some (100, 58)⟩ 203 = some c203 := by kernel_rfl
theorem h204 : compFunc Tryz.prog ⟨261, 178, some (100, 58)⟩ 204 = some c204 := by kernel_rfl
theorem h205 : compFunc Tryz.prog ⟨261, 178, some (100, 58)⟩ 205 = some c205 := by kernel_rfl
theorem h206 : compFunc Tryz.prog ⟨261, 178, some (100, 58)⟩ 206 = some c206 := by kernel_rfl
theorem h208 : compFunc Tryz.prog ⟨261, 178, some (100, 58)⟩ 208 = some c208 := by kernel_rfl
theorem h209 : compFunc Tryz.prog ⟨261, 178, some (100, 58)⟩ 209 = some c209 := by kernel_rfl
theorem h211 : compFunc Tryz.prog ⟨261, 178, some (100, 58)⟩ 211 = some c211 := by kernel_rfl
theorem h216 : compFunc Tryz.prog ⟨261, 178, some (100, 58)⟩ 216 = some c216 := by kernel_rfl
theorem h217 : compFunc Tryz.prog ⟨261, 178, some (100, 58)⟩ 217 = some c217 := by kernel_rfl
theorem h255 : compFunc Tryz.prog ⟨261, 178, some (100, 58)⟩ 255 = some c255 := by kernel_rfl
theorem h256 : compFunc Tryz.prog ⟨261, 178, some (100, 58)⟩ 256 = some c256 := by kernel_rfl
theorem h257 : compFunc Tryz.prog ⟨261, 178, some (100, 58)⟩ 257 = some c257 := by kernel_rfl
end Go.Proofs.YtiecbbepfjiceaaGreatDoor
namespace Go.Proofs.YtiecbbepfjiceaaGreatDoor
open Go.Clean
theorem h258 : compFunc Tryz.prog ⟨261, 178, some (100, 58)⟩ 258 = some c258 := by kernel_rfl
theorem h259 : compFunc Tryz.prog ⟨261, 178, some (100, 58)⟩ 259 = some c259 := by kernel_rfl
theorem h260 : compFunc Tryz.prog ⟨261, 178, some (100, 58)⟩ 260 = some c260 := by kernel_rfl
theorem h262 : compFunc Tryz.prog ⟨261, 178, some (100, 58)⟩ 262 = some c262 := by kernel_rfl
theorem h263 : compFunc Tryz.prog ⟨261, 178, some (100, 58)⟩ 263 = some c263 := by kernel_rfl
theorem h264 : compFunc Tryz.prog ⟨261, 178, some (100, 58)⟩ 264 = some c264 := by kernel_rfl
theorem h265 : compFunc Tryz.prog ⟨261, 178, some (100, 58)⟩ 265 = some c265 := by kernel_rfl
theorem h266 : compFunc Tryz.prog ⟨261, 178, some (100, 58)⟩ 266 = some c266 := by kernel_rfl
theorem h269 : compFunc Tryz.prog ⟨261, 178, some (100, 58)⟩ 269 = some c269 := by kernel_rfl
theorem h288 : compFunc Tryz.prog ⟨261, 178, some (100, 58)⟩ 288 = some c288 := by kernel_rfl
theorem h303 : compFunc Tryz.prog ⟨261, 178, some (100, 58)⟩ 303 = some c303 := by kernel_rfl
theorem h304 : compFunc Tryz.prog ⟨261, 178, some (100, 58)⟩ 304 = some c304 := by kernel_rfl
theorem h310 : compFunc Tryz.prog ⟨261, 178, some (100, 58)⟩ 310 = some c310 := by kernel_rfl
theorem h311 : compFunc Tryz.prog ⟨261, 178, some (100, 58)⟩ 311 = some c311 := by kernel_rfl
theorem h312 : compFunc Tryz.prog ⟨261, 178, some (100, 58)⟩ 312 = some c312 := by kernel_rfl
theorem h343 : compFunc Tryz.prog ⟨261, 178, some (100, 58)⟩ 343 = some c343 := by kernel_rfl
theorem h344 : compFunc Tryz.prog ⟨261, 178, some (100, 58)⟩ 344 = some c344 := by kernel_rfl
theorem h345 : compFunc Tryz.prog ⟨261, 178, some (100, 58)⟩ 345 = some c345 := by kernel_rfl
theorem h346 : compFunc Tryz.prog ⟨261, 178, some (100, 58)⟩ 346 = some c346 := by kernel_rfl
theorem h347 : compFunc Tryz.prog ⟨261, 178, some (100, 58)⟩ 347 = some c347 := by kernel_rfl
theorem h348 : compFunc Tryz.prog ⟨261, 178, some (100, 58)⟩ 348 = some c348 := by kernel_rfl
theorem h351 : compFunc Tryz.prog ⟨261, 178, some (100, 58)⟩ 351 = some c351 := by kernel_rfl
theorem h352 : compFunc Tryz.prog ⟨261, 178, some (100, 58)⟩ 352 = some c352 := by kernel_rfl
theorem h353 : compFunc Tryz.prog ⟨261, 178, some (100, 58)⟩ 353 = some c353 := by kernel_rfl
end Go.Proofs.YtiecbbepfjiceaaGreatDoor
namespace Go.Proofs.YtiecbbepfjiceaaGreatDoor
open Go.Clean
theorem h354 : compFunc Tryz.prog ⟨261, 178, some (100, 58)⟩ 354 = some c354 := by kernel_rfl
theorem h356 : compFunc Tryz.prog ⟨261, 178, some (100, 58)⟩ 356 = some c356 := by kernel_rfl
theorem h357 : compFunc Tryz.prog ⟨261, 178, some (100, 58)⟩ 357 = some c357 := by kernel_rfl
theorem h358 : compFunc Tryz.prog ⟨261, 178, some (100, 58)⟩ 358 = some c358 := by kernel_rfl
theorem h387 : compFunc Tryz.prog ⟨261, 178, some (100, 58)⟩ 387 = some c387 := by kernel_rfl
theorem h388 : compFunc Tryz.prog ⟨261, 178, some (100, 58)⟩ 388 = some c388 := by kernel_rfl
theorem h389 : compFunc Tryz.prog ⟨261, 178, some (100, 58)⟩ 389 = some c389 := by kernel_rfl
theorem h390 : compFunc Tryz.prog ⟨261, 178, some (100, 58)⟩ 390 = some c390 := by kernel_rfl
theorem h391 : compFunc Tryz.prog ⟨261, 178, some (100, 58)⟩ 391 = some c391 := by kernel_rfl
theorem h392 : compFunc Tryz.prog ⟨261, 178, some (100, 58)⟩ 392 = some c392 := by kernel_rfl
theorem h393 : compFunc Tryz.prog ⟨261, 178, some (100, 58)⟩ 393 = some c393 := by kernel_rfl
theorem h396 : compFunc Tryz.prog ⟨261, 178, some (100, 58)⟩ 396 = some c396 := by kernel_rfl
theorem h398 : compFunc Tryz.prog ⟨261, 178, some (100, 58)⟩ 398 = some c398 := by kernel_rfl
theorem h401 : compFunc Tryz.prog ⟨261, 178, some (100, 58)⟩ 401 = some c401 := by kernel_rfl
theorem h422 : compFunc Tryz.prog ⟨261, 178, some (100, 58)⟩ 422 = some c422 := by kernel_rfl
theorem h423 : compFunc Tryz.prog ⟨261, 178, some (100, 58)⟩ 423 = some c423 := by kernel_rfl
theorem h424 : compFunc Tryz.prog ⟨261, 178, some (100, 58)⟩ 424 = some c424 := by kernel_rfl
theorem h425 : compFunc Tryz.prog ⟨261, 178, some (100, 58)⟩ 425 = some c425 := by kernel_rfl
theorem h444 : compFunc Tryz.prog ⟨261, 178, some (100, 58)⟩ 444 = some c444 := by kernel_rfl
theorem h445 : compFunc Tryz.prog ⟨261, 178, some (100, 58)⟩ 445 = some c445 := by kernel_rfl
end Go.Proofs.YtiecbbepfjiceaaGreatDoor
