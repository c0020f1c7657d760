/- Contracts of functions that the statement reaches; each theorem carries its own conditions, the last theorem of the claim has none. -/
import Derived.Test.YtngldjajfpbmbaaAbsY
import Derived.Test.YtngldjajfpbmbaaProg
import Derived.KernelRfl
/- The texts that functions' bodies come to (printed by gen.lean, a tool of our own). -/
set_option linter.unusedVariables false
set_option maxRecDepth 100000
namespace Go.Proofs.Ytngldjajfpbmbaa.A
open Go Go.Abs

/-- 12: marginalia/marginalialaw06.StoreApart -/
def ann12 : Ann := (.two .leaf (.two .leaf (.two (.two .leaf (.two (.two .leaf .leaf) .leaf)) (.two .leaf (.two .leaf (.two .leaf (.two .leaf (.two .leaf (.two .leaf (.two .leaf (.two (.two .leaf (.one (.loop [14] [14, 101, 102, 103, 104, 105, 106, 107, 108, 109, 110, 111, 112, 113, 114] (.two (.two .leaf (.two .leaf .leaf)) (.two (.one .leaf) .leaf))))) (.two .leaf (.two .leaf (.two .leaf (.two .leaf (.two .leaf (.two .leaf (.two (.two .leaf (.one (.loop [22] [4, 22, 141, 142, 143, 144, 145, 146, 147, 148, 149, 150, 151, 152, 153, 154, 155, 156, 157, 158, 159, 160, 161, 162] (.two (.two .leaf (.two .leaf .leaf)) (.two (.one (.two (.two (.draw [(0, []), (1, []), (2, []), (3, []), (4, []), (5, []), (6, []), (7, []), (8, []), (9, []), (10, [])]) (.two (.two .leaf .leaf) .leaf)) .leaf)) .leaf))))) (.two .leaf (.two (.two .leaf (.one (.loop [25] [4, 25, 169, 170, 171, 172, 173, 174, 175, 176, 177, 178, 179, 180, 181, 182, 183, 184, 185, 186] (.two (.two .leaf (.two .leaf .leaf)) (.two (.one (.two (.draw [(0, []), (1, []), (2, []), (3, []), (4, []), (5, []), (6, []), (7, []), (8, []), (9, []), (10, [])]) (.two (.two .leaf .leaf) .leaf))) .leaf))))) (.two .leaf (.two .leaf (.two .leaf (.two .leaf (.two .leaf (.two .leaf (.two .leaf (.two .leaf .leaf))))))))))))))))))))))))))))
def S12_155 (t86_124 : Value) (vs_144 : List Value) (H_145 : AHeap) (again_146 : List Value → AHeap → Prop) : Prop :=
 bnd (aIdxAddr 1 t86_124 (nth vs_144 0)) fun t111_149 =>
 bnd (aLdCell t111_149 H_145) fun t112_150 =>
 bnd (aBin .add .no t112_150 (.int .i64 1)) fun t113_151 =>
 bnd (aIdxAddr 1 t86_124 (nth vs_144 0)) fun t114_152 =>
 bnd (aSt 1 t114_152 t113_151 H_145) fun H_153 =>
 bnd (aBin .add .no (nth vs_144 0) (.int .i64 1)) fun t106_154 =>
 again_146 [t106_154] H_153
def S12_206 (t20_182 : Value) (vs_185 : List Value) (H_186 : AHeap) (again_187 : List Value → AHeap → Prop) : Prop :=
 bnd (aAdd 6 t20_182) fun t159_201 =>
 bnd (aLdCell t159_201 H_186) fun t160_202 =>
 bnd (aIdxAddr 1 t160_202 (nth vs_185 0)) fun t162_203 =>
 bnd (aSt 1 t162_203 (.int .i64 9) H_186) fun H_204 =>
 bnd (aBin .add .no (nth vs_185 0) (.int .i64 1)) fun t147_205 =>
 again_187 [t147_205] H_204
def S12_207 (R : Value → AHeap → Prop) (t3_0 : Value) (t20_182 : Value) (vs_185 : List Value) (H_186 : AHeap) (again_187 : List Value → AHeap → Prop) : Prop :=
 bnd (aAdd 6 t20_182) fun t148_192 =>
 bnd (aLdCell t148_192 H_186) fun t149_193 =>
 bnd (aIdxAddr 1 t149_193 (nth vs_185 0)) fun t151_194 =>
 bnd (aLdCell t151_194 H_186) fun t152_195 =>
 bnd (aAdd 6 t3_0) fun t153_196 =>
 bnd (aLdCell t153_196 H_186) fun t154_197 =>
 bnd (aIdxAddr 1 t154_197 (nth vs_185 0)) fun t156_198 =>
 bnd (aLdCell t156_198 H_186) fun t157_199 =>
 bnd (aBin .neq .no t152_195 t157_199) fun t158_200 =>
 aCond t158_200 (
 R (.bool false) H_186) (
 (S12_206 t20_182 vs_185 H_186 again_187))
def S12_233 (R : Value → AHeap → Prop) (t3_0 : Value) (t23_213 : Value) (vs_216 : List Value) (H_217 : AHeap) (again_218 : List Value → AHeap → Prop) : Prop :=
 bnd (aAdd 6 t23_213) fun t176_223 =>
 bnd (aLdCell t176_223 H_217) fun t177_224 =>
 bnd (aIdxAddr 1 t177_224 (nth vs_216 0)) fun t179_225 =>
 bnd (aLdCell t179_225 H_217) fun t180_226 =>
 bnd (aAdd 6 t3_0) fun t181_227 =>
 bnd (aLdCell t181_227 H_217) fun t182_228 =>
 bnd (aIdxAddr 1 t182_228 (nth vs_216 0)) fun t184_229 =>
 bnd (aLdCell t184_229 H_217) fun t185_230 =>
 bnd (aBin .neq .no t180_226 t185_230) fun t186_231 =>
 aCond t186_231 (
 R (.bool false) H_217) (
 bnd (aBin .add .no (nth vs_216 0) (.int .i64 1)) fun t175_232 =>
 again_218 [t175_232] H_217)
def S12_501 (a0 : Value) (R : Value → AHeap → Prop) (t3_0 : Value) (t8_117 : Value) (t16_169 : Value) (t134_176 : Value) (t140_181 : Value) (t20_182 : Value) (t191_237 : Value) (t196_244 : Value) (t201_251 : Value) (t207_256 : Value) (t211_261 : Value) (H_262 : AHeap) : Prop :=
 bnd (aExtract t211_261 0) fun t212_263 =>
 bnd (aExtract t211_261 1) fun t213_264 =>
 aAlloc [(.int .i64 0), (.int .i64 0)] 28 H_262 fun t35_265 H_266 =>
 bnd (aSt 2 t35_265 t212_263 H_266) fun H_267 =>
 bnd (aAdd 1 t16_169) fun t214_268 =>
 bnd (aLdCell t214_268 H_267) fun t215_269 =>
 bnd (aBin .eql .no t215_269 a0) fun t217_270 =>
 aGuardK t217_270 true (fun K_271 H_272 =>
 K_271 t134_176 H_272) (fun t219_273 H_274 =>
 aGuardK t217_270 true (fun K_275 H_276 =>
 bnd (aBin .eql .no t219_273 (.int .i64 10)) fun t220_277 =>
 K_275 t220_277 H_276) (fun t220_278 H_279 =>
 bnd (aPick t217_270 t220_278 (.bool false)) fun t221_280 =>
 aGuardK t221_280 true (fun K_281 H_282 =>
 K_281 t140_181 H_282) (fun t223_283 H_284 =>
 aGuardK t221_280 true (fun K_285 H_286 =>
 bnd (aBin .eql .no t223_283 (.int .i64 0)) fun t224_287 =>
 K_285 t224_287 H_286) (fun t224_288 H_289 =>
 bnd (aPick t221_280 t224_288 (.bool false)) fun t225_290 =>
 aGuardK t225_290 true (fun K_291 H_292 =>
 bnd (aAdd 6 t20_182) fun t227_293 =>
 K_291 t227_293 H_292) (fun t227_294 H_295 =>
 aGuardK t225_290 true (fun K_296 H_297 =>
 bnd (aLdCell t227_294 H_297) fun t228_298 =>
 K_296 t228_298 H_297) (fun t228_299 H_300 =>
 aGuardK t225_290 true (fun K_301 H_302 =>
 bnd (aLenSl t228_299) fun t229_303 =>
 K_301 t229_303 H_302) (fun t229_304 H_305 =>
 aGuardK t225_290 true (fun K_306 H_307 =>
 bnd (aAdd 6 t3_0) fun t230_308 =>
 K_306 t230_308 H_307) (fun t230_309 H_310 =>
 aGuardK t225_290 true (fun K_311 H_312 =>
 bnd (aLdCell t230_309 H_312) fun t231_313 =>
 K_311 t231_313 H_312) (fun t231_314 H_315 =>
 aGuardK t225_290 true (fun K_316 H_317 =>
 bnd (aLenSl t231_314) fun t232_318 =>
 K_316 t232_318 H_317) (fun t232_319 H_320 =>
 aGuardK t225_290 true (fun K_321 H_322 =>
 bnd (aBin .eql .no t229_304 t232_319) fun t233_323 =>
 K_321 t233_323 H_322) (fun t233_324 H_325 =>
 bnd (aPick t225_290 t233_324 (.bool false)) fun t234_326 =>
 aGuardK t234_326 true (fun K_327 H_328 =>
 K_327 t191_237 H_328) (fun t236_329 H_330 =>
 aGuardK t234_326 true (fun K_331 H_332 =>
 K_331 (.int .i64 1) H_332) (fun t237_333 H_334 =>
 aGuardK t234_326 true (fun K_335 H_336 =>
 bnd (aBin .eql .no t236_329 t237_333) fun t238_337 =>
 K_335 t238_337 H_336) (fun t238_338 H_339 =>
 bnd (aPick t234_326 t238_338 (.bool false)) fun t239_340 =>
 aGuardK t239_340 true (fun K_341 H_342 =>
 K_341 t196_244 H_342) (fun t241_343 H_344 =>
 aGuardK t239_340 true (fun K_345 H_346 =>
 K_345 (.int .i64 1) H_346) (fun t242_347 H_348 =>
 aGuardK t239_340 true (fun K_349 H_350 =>
 bnd (aBin .eql .no t241_343 t242_347) fun t243_351 =>
 K_349 t243_351 H_350) (fun t243_352 H_353 =>
 bnd (aPick t239_340 t243_352 (.bool false)) fun t244_354 =>
 aGuardK t244_354 true (fun K_355 H_356 =>
 K_355 t201_251 H_356) (fun t246_357 H_358 =>
 aGuardK t244_354 true (fun K_359 H_360 =>
 K_359 (.int .i64 1) H_360) (fun t247_361 H_362 =>
 aGuardK t244_354 true (fun K_363 H_364 =>
 bnd (aBin .eql .no t246_357 t247_361) fun t248_365 =>
 K_363 t248_365 H_364) (fun t248_366 H_367 =>
 bnd (aPick t244_354 t248_366 (.bool false)) fun t249_368 =>
 aGuardK t249_368 true (fun K_369 H_370 =>
 K_369 t207_256 H_370) (fun t251_371 H_372 =>
 aGuardK t249_368 true (fun K_373 H_374 =>
 K_373 (.int .i64 1) H_374) (fun t252_375 H_376 =>
 aGuardK t249_368 true (fun K_377 H_378 =>
 bnd (aBin .eql .no t251_371 t252_375) fun t253_379 =>
 K_377 t253_379 H_378) (fun t253_380 H_381 =>
 bnd (aPick t249_368 t253_380 (.bool false)) fun t254_382 =>
 aGuardK t254_382 true (fun K_383 H_384 =>
 K_383 t213_264 H_384) (fun t256_385 H_386 =>
 aGuardK t254_382 true (fun K_387 H_388 =>
 K_387 (.int .i64 1) H_388) (fun t257_389 H_390 =>
 aGuardK t254_382 true (fun K_391 H_392 =>
 bnd (aBin .eql .no t256_385 t257_389) fun t258_393 =>
 K_391 t258_393 H_392) (fun t258_394 H_395 =>
 bnd (aPick t254_382 t258_394 (.bool false)) fun t259_396 =>
 aGuardK t259_396 true (fun K_397 H_398 =>
 K_397 (.pointer none) H_398) (fun t261_399 H_400 =>
 aGuardK t259_396 true (fun K_401 H_402 =>
 bnd (aLdAgg 2 t8_117 H_402) fun t262_403 =>
 K_401 t262_403 H_402) (fun t262_404 H_405 =>
 aGuardK t259_396 true (fun K_406 H_407 =>
 bnd (aLdAgg 2 t8_117 H_407) fun t263_408 =>
 K_406 t263_408 H_407) (fun t263_409 H_410 =>
 aGuardK t259_396 true (fun K_411 H_412 =>
 ACalls Try.prog 19 [t261_399, t262_404, (.int .i64 0), t263_409] H_412 fun t264_413 H_414 =>
 K_411 t264_413 H_414) (fun t264_415 H_416 =>
 aGuardK t259_396 true (fun K_417 H_418 =>
 K_417 (.int .i64 1) H_418) (fun t265_419 H_420 =>
 aGuardK t259_396 true (fun K_421 H_422 =>
 bnd (aBin .eql .no t264_415 t265_419) fun t266_423 =>
 K_421 t266_423 H_422) (fun t266_424 H_425 =>
 bnd (aPick t259_396 t266_424 (.bool false)) fun t267_426 =>
 aGuardK t267_426 true (fun K_427 H_428 =>
 K_427 (.pointer none) H_428) (fun t269_429 H_430 =>
 aGuardK t267_426 true (fun K_431 H_432 =>
 ACalls Try.prog 17 [t269_429] H_432 fun t270_433 H_434 =>
 K_431 t270_433 H_434) (fun t270_435 H_436 =>
 aGuardK t267_426 true (fun K_437 H_438 =>
 bnd (aBin .eql .no t270_435 (.int .i64 0)) fun t271_439 =>
 K_437 t271_439 H_438) (fun t271_440 H_441 =>
 bnd (aPick t267_426 t271_440 (.bool false)) fun t272_442 =>
 aGuardK t272_442 true (fun K_443 H_444 =>
 K_443 (.pointer none) H_444) (fun t274_445 H_446 =>
 aGuardK t272_442 true (fun K_447 H_448 =>
 bnd (aLdAgg 2 t8_117 H_448) fun t275_449 =>
 K_447 t275_449 H_448) (fun t275_450 H_451 =>
 aGuardK t272_442 true (fun K_452 H_453 =>
 ACalls Try.prog 36 [t274_445, t275_450] H_453 fun t276_454 H_455 =>
 K_452 t276_454 H_455) (fun t276_456 H_457 =>
 aGuardK t272_442 true (fun K_458 H_459 =>
 bnd (aBin .eql .no t276_456 (.int .i64 0)) fun t277_460 =>
 K_458 t277_460 H_459) (fun t277_461 H_462 =>
 bnd (aPick t272_442 t277_461 (.bool false)) fun t278_463 =>
 aGuardK t278_463 true (fun K_464 H_465 =>
 K_464 (.pointer none) H_465) (fun t280_466 H_467 =>
 aGuardK t278_463 true (fun K_468 H_469 =>
 bnd (aLdAgg 2 t8_117 H_469) fun t281_470 =>
 K_468 t281_470 H_469) (fun t281_471 H_472 =>
 aGuardK t278_463 true (fun K_473 H_474 =>
 ACalls Try.prog 37 [t280_466, t281_471] H_474 fun t282_475 H_476 =>
 K_473 t282_475 H_476) (fun t282_477 H_478 =>
 aGuardK t278_463 true (fun K_479 H_480 =>
 bnd (aBin .eql .no t282_477 (.int .i64 0)) fun t283_481 =>
 K_479 t283_481 H_480) (fun t283_482 H_483 =>
 bnd (aPick t278_463 t283_482 (.bool false)) fun t284_484 =>
 aGuardK t284_484 true (fun K_485 H_486 =>
 K_485 (.pointer none) H_486) (fun t286_487 H_488 =>
 aGuardK t284_484 true (fun K_489 H_490 =>
 ACalls Try.prog 32 [t286_487] H_490 fun t287_491 H_492 =>
 K_489 t287_491 H_492) (fun t287_493 H_494 =>
 aGuardK t284_484 true (fun K_495 H_496 =>
 bnd (aBin .eql .ptr t287_493 (.pointer none)) fun t288_497 =>
 K_495 t288_497 H_496) (fun t288_498 H_499 =>
 bnd (aPick t284_484 t288_498 (.bool false)) fun t289_500 =>
 R t289_500 H_499) H_494) H_488) H_483) H_478) H_472) H_467) H_462) H_457) H_451) H_446) H_441) H_436) H_430) H_425) H_420) H_416) H_410) H_405) H_400) H_395) H_390) H_386) H_381) H_376) H_372) H_367) H_362) H_358) H_353) H_348) H_344) H_339) H_334) H_330) H_325) H_320) H_315) H_310) H_305) H_300) H_295) H_289) H_284) H_279) H_274) H_267
def S12_502 (a0 : Value) (R : Value → AHeap → Prop) (t3_0 : Value) (t8_117 : Value) (t16_169 : Value) (t134_176 : Value) (t140_181 : Value) (t20_182 : Value) (t191_237 : Value) (t196_244 : Value) (t201_251 : Value) (t205_253 : Value) (H_254 : AHeap) : Prop :=
 bnd (aExtract t205_253 0) fun t206_255 =>
 bnd (aExtract t205_253 1) fun t207_256 =>
 aAlloc [(.int .i64 0), (.int .i64 0)] 28 H_254 fun t33_257 H_258 =>
 bnd (aSt 2 t33_257 t206_255 H_258) fun H_259 =>
 bnd (aFill [(.int .i64 0), (.string ⟨#[]⟩), (.bool false), (.slice none 0 0), (.slice none 0 0), (.int .i64 0), (.slice none 0 0), (.slice none 0 0)] []) fun t210_260 =>
 ACalls Try.prog 34 [(.pointer none), (.agg t210_260.toArray)] H_259 fun t211_261 H_262 =>
 (S12_501 a0 R t3_0 t8_117 t16_169 t134_176 t140_181 t20_182 t191_237 t196_244 t201_251 t207_256 t211_261 H_262)
def S12_503 (a0 : Value) (R : Value → AHeap → Prop) (t3_0 : Value) (t8_117 : Value) (t16_169 : Value) (t134_176 : Value) (t140_181 : Value) (t20_182 : Value) (t191_237 : Value) (t194_241 : Value) (H_242 : AHeap) : Prop :=
 bnd (aExtract t194_241 0) fun t195_243 =>
 bnd (aExtract t194_241 1) fun t196_244 =>
 aAlloc [(.int .i64 0), (.int .i64 0)] 28 H_242 fun t29_245 H_246 =>
 bnd (aSt 2 t29_245 t195_243 H_246) fun H_247 =>
 ACalls Try.prog 16 [(.pointer none), (.slice none 0 0)] H_247 fun t199_248 H_249 =>
 bnd (aExtract t199_248 0) fun t200_250 =>
 bnd (aExtract t199_248 1) fun t201_251 =>
 bnd (aLdAgg 2 t8_117 H_249) fun t204_252 =>
 ACalls Try.prog 18 [(.pointer none), t204_252, (.int .i64 0)] H_249 fun t205_253 H_254 =>
 (S12_502 a0 R t3_0 t8_117 t16_169 t134_176 t140_181 t20_182 t191_237 t196_244 t201_251 t205_253 H_254)
def S12_504 (a0 : Value) (R : Value → AHeap → Prop) (t3_0 : Value) (t8_117 : Value) (t16_169 : Value) (t134_176 : Value) (t140_181 : Value) (t20_182 : Value) (H_217 : AHeap) : Prop :=
 ACalls Try.prog 15 [(.pointer none), (.int .i64 2), (.slice none 0 0)] H_217 fun t189_234 H_235 =>
 bnd (aExtract t189_234 0) fun t190_236 =>
 bnd (aExtract t189_234 1) fun t191_237 =>
 aAlloc [(.int .i64 0), (.int .i64 0)] 28 H_235 fun t27_238 H_239 =>
 bnd (aSt 2 t27_238 t190_236 H_239) fun H_240 =>
 ACalls Try.prog 23 [(.pointer none), (.string ⟨#[97]⟩)] H_240 fun t194_241 H_242 =>
 (S12_503 a0 R t3_0 t8_117 t16_169 t134_176 t140_181 t20_182 t191_237 t194_241 H_242)
def S12_505 (a0 : Value) (R : Value → AHeap → Prop) (t3_0 : Value) (t8_117 : Value) (t16_169 : Value) (t134_176 : Value) (t140_181 : Value) (t20_182 : Value) (t23_213 : Value) (vs_216 : List Value) (H_217 : AHeap) (again_218 : List Value → AHeap → Prop) : Prop :=
 bnd (aAdd 6 t23_213) fun t170_219 =>
 bnd (aLdCell t170_219 H_217) fun t171_220 =>
 bnd (aLenSl t171_220) fun t172_221 =>
 bnd (aBin .lss .no (nth vs_216 0) t172_221) fun t173_222 =>
 aCond t173_222 (
 (S12_233 R t3_0 t23_213 vs_216 H_217 again_218)) (
 (S12_504 a0 R t3_0 t8_117 t16_169 t134_176 t140_181 t20_182 H_217))
def S12_506 (a0 : Value) (R : Value → AHeap → Prop) (t3_0 : Value) (t8_117 : Value) (t16_169 : Value) (t134_176 : Value) (t140_181 : Value) (t20_182 : Value) (t166_209 : Value) (H_210 : AHeap) : Prop :=
 bnd (aExtract t166_209 0) fun t167_211 =>
 bnd (aExtract t166_209 1) fun t168_212 =>
 aAlloc [(.int .i64 0), (.string ⟨#[]⟩), (.bool false), (.slice none 0 0), (.slice none 0 0), (.int .i64 0), (.slice none 0 0), (.slice none 0 0)] 79 H_210 fun t23_213 H_214 =>
 bnd (aSt 8 t23_213 t167_211 H_214) fun H_215 =>
 aLoop [(.int .i64 0)] H_215 fun vs_216 H_217 again_218 =>
 (S12_505 a0 R t3_0 t8_117 t16_169 t134_176 t140_181 t20_182 t23_213 vs_216 H_217 again_218)
def S12_507 (a0 : Value) (R : Value → AHeap → Prop) (t3_0 : Value) (t8_117 : Value) (t12_137 : Value) (t116_156 : Value) (t16_169 : Value) (t134_176 : Value) (t140_181 : Value) (t20_182 : Value) (vs_185 : List Value) (H_186 : AHeap) (again_187 : List Value → AHeap → Prop) : Prop :=
 bnd (aAdd 6 t20_182) fun t142_188 =>
 bnd (aLdCell t142_188 H_186) fun t143_189 =>
 bnd (aLenSl t143_189) fun t144_190 =>
 bnd (aBin .lss .no (nth vs_185 0) t144_190) fun t145_191 =>
 aCond t145_191 (
 (S12_207 R t3_0 t20_182 vs_185 H_186 again_187)) (
 bnd (aLdAgg 2 t12_137 H_186) fun t165_208 =>
 ACalls Try.prog 35 [t116_156, t165_208] H_186 fun t166_209 H_210 =>
 (S12_506 a0 R t3_0 t8_117 t16_169 t134_176 t140_181 t20_182 t166_209 H_210))
def S12_508 (a0 : Value) (R : Value → AHeap → Prop) (t3_0 : Value) (t8_117 : Value) (t12_137 : Value) (t116_156 : Value) (t16_169 : Value) (t134_176 : Value) (t138_178 : Value) (H_179 : AHeap) : Prop :=
 bnd (aExtract t138_178 0) fun t139_180 =>
 bnd (aExtract t138_178 1) fun t140_181 =>
 aAlloc [(.int .i64 0), (.string ⟨#[]⟩), (.bool false), (.slice none 0 0), (.slice none 0 0), (.int .i64 0), (.slice none 0 0), (.slice none 0 0)] 79 H_179 fun t20_182 H_183 =>
 bnd (aSt 8 t20_182 t139_180 H_183) fun H_184 =>
 aLoop [(.int .i64 0)] H_184 fun vs_185 H_186 again_187 =>
 (S12_507 a0 R t3_0 t8_117 t12_137 t116_156 t16_169 t134_176 t140_181 t20_182 vs_185 H_186 again_187)
def S12_509 (a0 : Value) (R : Value → AHeap → Prop) (t3_0 : Value) (t8_117 : Value) (t12_137 : Value) (t116_156 : Value) (t126_165 : Value) (H_166 : AHeap) : Prop :=
 bnd (aExtract t126_165 0) fun t127_167 =>
 bnd (aExtract t126_165 1) fun t128_168 =>
 aAlloc [(.int .i64 0), (.int .i64 0)] 28 H_166 fun t16_169 H_170 =>
 bnd (aSt 2 t16_169 t127_167 H_170) fun H_171 =>
 bnd (aFill [(.int .i64 0), (.int .i64 0)] [(0, 1, (.int .i64 6))]) fun t131_172 =>
 ACalls Try.prog 24 [t116_156, (.agg t131_172.toArray)] H_171 fun t132_173 H_174 =>
 bnd (aExtract t132_173 0) fun t133_175 =>
 bnd (aExtract t132_173 1) fun t134_176 =>
 bnd (aLdAgg 2 t12_137 H_174) fun t137_177 =>
 ACalls Try.prog 35 [t116_156, t137_177] H_174 fun t138_178 H_179 =>
 (S12_508 a0 R t3_0 t8_117 t12_137 t116_156 t16_169 t134_176 t138_178 H_179)
def S12_510 (a0 : Value) (R : Value → AHeap → Prop) (t3_0 : Value) (t40_4 : Value) (t8_117 : Value) (t12_137 : Value) (t116_156 : Value) (H_157 : AHeap) : Prop :=
 bnd (aLdAgg 2 t8_117 H_157) fun t118_158 =>
 bnd (aFill [(.int .i64 0), (.int .i64 0)] []) fun t119_159 =>
 ACalls Try.prog 19 [t40_4, t118_158, (.int .i64 0), (.agg t119_159.toArray)] H_157 fun t120_160 H_161 =>
 ACalls Try.prog 23 [t40_4, (.string ⟨#[110, 101, 119]⟩)] H_161 fun t122_162 H_163 =>
 bnd (aLdAgg 2 t8_117 H_163) fun t125_164 =>
 ACalls Try.prog 18 [t116_156, t125_164, (.int .i64 0)] H_163 fun t126_165 H_166 =>
 (S12_509 a0 R t3_0 t8_117 t12_137 t116_156 t126_165 H_166)
def S12_511 (a0 : Value) (R : Value → AHeap → Prop) (t3_0 : Value) (t40_4 : Value) (t8_117 : Value) (t86_124 : Value) (t12_137 : Value) (vs_144 : List Value) (H_145 : AHeap) (again_146 : List Value → AHeap → Prop) : Prop :=
 bnd (aLenSl t86_124) fun t103_147 =>
 bnd (aBin .lss .no (nth vs_144 0) t103_147) fun t104_148 =>
 aCond t104_148 (
 (S12_155 t86_124 vs_144 H_145 again_146)) (
 ACalls Try.prog 32 [t40_4] H_145 fun t116_156 H_157 =>
 (S12_510 a0 R t3_0 t40_4 t8_117 t12_137 t116_156 H_157))
def S12_512 (a0 : Value) (R : Value → AHeap → Prop) (t3_0 : Value) (t40_4 : Value) (t76_111 : Value) (t8_117 : Value) (t86_124 : Value) (t93_133 : Value) (H_134 : AHeap) : Prop :=
 bnd (aExtract t93_133 0) fun t94_135 =>
 bnd (aExtract t93_133 1) fun t95_136 =>
 aAlloc [(.int .i64 0), (.int .i64 0)] 28 H_134 fun t12_137 H_138 =>
 bnd (aSt 2 t12_137 t94_135 H_138) fun H_139 =>
 bnd (aBin .add .no a0 (.int .i64 1)) fun t98_140 =>
 bnd (aIdxAddr 2 t76_111 (.int .i64 0)) fun t99_141 =>
 bnd (aAdd 1 t99_141) fun t100_142 =>
 bnd (aSt 1 t100_142 t98_140 H_139) fun H_143 =>
 aLoop [(.int .i64 0)] H_143 fun vs_144 H_145 again_146 =>
 (S12_511 a0 R t3_0 t40_4 t8_117 t86_124 t12_137 vs_144 H_145 again_146)
def S12_513 (a0 : Value) (R : Value → AHeap → Prop) (t3_0 : Value) (t40_4 : Value) (t76_111 : Value) (t80_113 : Value) (H_114 : AHeap) : Prop :=
 bnd (aExtract t80_113 0) fun t81_115 =>
 bnd (aExtract t80_113 1) fun t82_116 =>
 aAlloc [(.int .i64 0), (.int .i64 0)] 28 H_114 fun t8_117 H_118 =>
 bnd (aSt 2 t8_117 t81_115 H_118) fun H_119 =>
 aBuildSlice 1 0 3 [(.int .i64 0)] [] H_119 fun t83_120 H_121 =>
 bnd (aAdd 6 t3_0) fun t84_122 =>
 bnd (aLdCell t84_122 H_121) fun t85_123 =>
 aAppend 1 8 3 t83_120 t85_123 H_121 fun t86_124 H_125 =>
 bnd (aLdAgg 8 t3_0 H_125) fun t87_126 =>
 aAlloc [(.int .i64 0), (.string ⟨#[]⟩), (.bool false), (.slice none 0 0), (.slice none 0 0), (.int .i64 0), (.slice none 0 0), (.slice none 0 0)] 79 H_125 fun t11_127 H_128 =>
 bnd (aSt 8 t11_127 t87_126 H_128) fun H_129 =>
 bnd (aAdd 6 t11_127) fun t89_130 =>
 bnd (aSt 1 t89_130 t86_124 H_129) fun H_131 =>
 bnd (aLdAgg 8 t11_127 H_131) fun t92_132 =>
 ACalls Try.prog 34 [t40_4, t92_132] H_131 fun t93_133 H_134 =>
 (S12_512 a0 R t3_0 t40_4 t76_111 t8_117 t86_124 t93_133 H_134)
def S12_514 (a0 : Value) (R : Value → AHeap → Prop) (t3_0 : Value) (t40_4 : Value) (H_106 : AHeap) : Prop :=
 bnd (aFill [(.int .i64 0), (.int .i64 0)] [(0, 1, (.int .i64 4)), (1, 1, a0)]) fun t75_110 =>
 aBuildSlice 2 1 28 [(.int .i64 0), (.int .i64 0)] [(0, 2, (.agg t75_110.toArray))] H_106 fun t76_111 H_112 =>
 ACalls Try.prog 15 [t40_4, (.int .i64 2), t76_111] H_112 fun t80_113 H_114 =>
 (S12_513 a0 R t3_0 t40_4 t76_111 t80_113 H_114)
def S12_515 (a0 : Value) (R : Value → AHeap → Prop) (t3_0 : Value) (t40_4 : Value) (t41_5 : Value) (t42_6 : Value) (H_7 : AHeap) : Prop :=
 bnd (aUn .not t42_6) fun t43_8 =>
 aGuardK t43_8 false (fun K_9 H_10 =>
 K_9 t41_5 H_10) (fun t45_11 H_12 =>
 aGuardK t43_8 false (fun K_13 H_14 =>
 bnd (aBin .neq .no t45_11 (.int .i64 0)) fun t46_15 =>
 K_13 t46_15 H_14) (fun t46_16 H_17 =>
 bnd (aPick t43_8 (.bool true) t46_16) fun t47_18 =>
 aGuardK t47_18 false (fun K_19 H_20 =>
 bnd (aAdd 6 t3_0) fun t49_21 =>
 K_19 t49_21 H_20) (fun t49_22 H_23 =>
 aGuardK t47_18 false (fun K_24 H_25 =>
 bnd (aLdCell t49_22 H_25) fun t50_26 =>
 K_24 t50_26 H_25) (fun t50_27 H_28 =>
 aGuardK t47_18 false (fun K_29 H_30 =>
 bnd (aLenSl t50_27) fun t51_31 =>
 K_29 t51_31 H_30) (fun t51_32 H_33 =>
 aGuardK t47_18 false (fun K_34 H_35 =>
 bnd (aBin .gtr .no t51_32 (.int .i64 20)) fun t52_36 =>
 K_34 t52_36 H_35) (fun t52_37 H_38 =>
 bnd (aPick t47_18 (.bool true) t52_37) fun t53_39 =>
 aGuardK t53_39 false (fun K_40 H_41 =>
 bnd (aAdd 7 t3_0) fun t55_42 =>
 K_40 t55_42 H_41) (fun t55_43 H_44 =>
 aGuardK t53_39 false (fun K_45 H_46 =>
 bnd (aLdCell t55_43 H_46) fun t56_47 =>
 K_45 t56_47 H_46) (fun t56_48 H_49 =>
 aGuardK t53_39 false (fun K_50 H_51 =>
 bnd (aLenSl t56_48) fun t57_52 =>
 K_50 t57_52 H_51) (fun t57_53 H_54 =>
 aGuardK t53_39 false (fun K_55 H_56 =>
 bnd (aBin .gtr .no t57_53 (.int .i64 20)) fun t58_57 =>
 K_55 t58_57 H_56) (fun t58_58 H_59 =>
 bnd (aPick t53_39 (.bool true) t58_58) fun t59_60 =>
 aGuardK t59_60 false (fun K_61 H_62 =>
 bnd (aAdd 2 t3_0) fun t61_63 =>
 K_61 t61_63 H_62) (fun t61_64 H_65 =>
 aGuardK t59_60 false (fun K_66 H_67 =>
 bnd (aAdd 1 t61_64) fun t62_68 =>
 K_66 t62_68 H_67) (fun t62_69 H_70 =>
 aGuardK t59_60 false (fun K_71 H_72 =>
 bnd (aLdCell t62_69 H_72) fun t63_73 =>
 K_71 t63_73 H_72) (fun t63_74 H_75 =>
 aGuardK t59_60 false (fun K_76 H_77 =>
 bnd (aLenSl t63_74) fun t64_78 =>
 K_76 t64_78 H_77) (fun t64_79 H_80 =>
 aGuardK t59_60 false (fun K_81 H_82 =>
 bnd (aBin .gtr .no t64_79 (.int .i64 20)) fun t65_83 =>
 K_81 t65_83 H_82) (fun t65_84 H_85 =>
 bnd (aPick t59_60 (.bool true) t65_84) fun t66_86 =>
 aGuardK t66_86 false (fun K_87 H_88 =>
 bnd (aAdd 4 t3_0) fun t68_89 =>
 K_87 t68_89 H_88) (fun t68_90 H_91 =>
 aGuardK t66_86 false (fun K_92 H_93 =>
 bnd (aLdCell t68_90 H_93) fun t69_94 =>
 K_92 t69_94 H_93) (fun t69_95 H_96 =>
 aGuardK t66_86 false (fun K_97 H_98 =>
 bnd (aLenSl t69_95) fun t70_99 =>
 K_97 t70_99 H_98) (fun t70_100 H_101 =>
 aGuardK t66_86 false (fun K_102 H_103 =>
 bnd (aBin .gtr .no t70_100 (.int .i64 0)) fun t71_104 =>
 K_102 t71_104 H_103) (fun t71_105 H_106 =>
 bnd (aPick t66_86 (.bool true) t71_105) fun t72_107 =>
 aCond t72_107 (
 ACalls Try.prog 14 [] H_106 fun t73_108 H_109 =>
 R t73_108 H_109) (
 (S12_514 a0 R t3_0 t40_4 H_106))) H_101) H_96) H_91) H_85) H_80) H_75) H_70) H_65) H_59) H_54) H_49) H_44) H_38) H_33) H_28) H_23) H_17) H_12) H_7
def S12 (a0 : Value) (a1 : Value) (H : AHeap) (R : Value → AHeap → Prop) : Prop :=
 aBox 79 a1 H fun t3_0 H_1 =>
 ACalls Try.prog 13 [(.int .i64 100)] H_1 fun t39_2 H_3 =>
 bnd (aExtract t39_2 0) fun t40_4 =>
 bnd (aExtract t39_2 1) fun t41_5 =>
 ACalls Try.prog 14 [] H_3 fun t42_6 H_7 =>
 (S12_515 a0 R t3_0 t40_4 t41_5 t42_6 H_7)
theorem S12_calls {a0 a1 : Value} {H : AHeap} {R : Value → AHeap → Prop} (h : S12 a0 a1 H R) : ACalls Try.prog 12 [a0, a1] H R :=
  have e : S12 a0 a1 H R = awpFn Try.prog (Try.f12.body.getD .skip) Try.f12.results.toList ann12 [a0, a1] H R := by kernel_rfl
  calls_of_awp (fn := Try.f12) (c := Try.f12.body.getD .skip) (an := ann12) (by kernel_rfl) Try.func12 (by kernel_rfl) (by kernel_rfl) (of_decide_eq_true (by kernel_rfl)) (e ▸ h)

/-- 32: (*marginalia/store.Store).Copy -/
def ann32 : Ann := (.two .leaf (.two (.two .leaf (.two (.two .leaf .leaf) .leaf)) (.two (.draw [(0, []), (1, []), (2, []), (3, []), (4, []), (5, []), (6, []), (7, []), (8, []), (9, []), (10, []), (11, []), (13, []), (12, [3, 7, 13]), (14, []), (15, []), (16, [])]) (.two (.two .leaf (.one (.loop [31] [4, 5, 31, 32, 33, 34, 35, 36, 37, 38, 39, 40, 41, 42] (.two .leaf (.two (.two .leaf .leaf) (.two (.one (.two .leaf .leaf)) .leaf)))))) (.two (.two .leaf (.one (.loop [48] [7, 48, 49, 50, 51, 52, 53, 54, 55, 56, 57, 58, 59, 60, 61, 62, 63, 64, 65, 66, 67, 68, 69, 70] (.two .leaf (.two (.two .leaf .leaf) (.two (.one (.two .leaf (.draw [(0, []), (1, []), (2, []), (3, []), (4, []), (5, []), (6, []), (7, []), (8, []), (10, []), (11, []), (9, [4, 6, 11]), (12, [4, 6]), (13, []), (14, []), (15, []), (16, []), (17, []), (18, [])]))) .leaf)))))) (.two .leaf .leaf))))))
def S32_32 (t25_15 : Value) (t29_19 : Value) (vs_21 : List Value) (H_22 : AHeap) (again_23 : List Value → AHeap → Prop) : Prop :=
 bnd (aIdxAddr 1 t29_19 (nth vs_21 0)) fun t34_25 =>
 bnd (aLdCell t34_25 H_22) fun t35_26 =>
 bnd (aNilCheck t25_15) fun t37_27 =>
 bnd (aAdd 4 t37_27) fun t38_28 =>
 bnd (aLdCell t38_28 H_22) fun t39_29 =>
 bnd (aMapUpd t39_29 t35_26 (nth vs_21 0) H_22) fun H_30 =>
 bnd (aBin .add .no (nth vs_21 0) (.int .i64 1)) fun t42_31 =>
 again_23 [t42_31] H_30
def S32_70 (t25_15 : Value) (vs_37 : List Value) (again_39 : List Value → AHeap → Prop) (t55_47 : Value) (t56_48 : Value) (t57_49 : Value) (t58_50 : Value) (t61_55 : Value) (t64_57 : Value) (H_58 : AHeap) : Prop :=
 ((bnd (aLdCell t55_47 H_58) fun t56_68 =>
 t56_68 = t56_48) ∧ (bnd (aLdCell t57_49 H_58) fun t58_69 =>
 t58_69 = t58_50)) ∧
 bnd (aFill [(.int .i64 0), (.slice none 0 0), (.int .i64 0), (.string ⟨#[]⟩), (.bool false), (.slice none 0 0), (.slice none 0 0), (.int .i64 0), (.slice none 0 0), (.slice none 0 0)] [(0, 1, t58_50), (1, 1, t61_55), (2, 8, t64_57)]) fun t65_59 =>
 aBuildSlice 10 1 94 [(.int .i64 0), (.slice none 0 0), (.int .i64 0), (.string ⟨#[]⟩), (.bool false), (.slice none 0 0), (.slice none 0 0), (.int .i64 0), (.slice none 0 0), (.slice none 0 0)] [(0, 10, (.agg t65_59.toArray))] H_58 fun t66_60 H_61 =>
 aAppend 10 168 94 t56_48 t66_60 H_61 fun t67_62 H_63 =>
 bnd (aNilCheck t25_15) fun t68_64 =>
 bnd (aAdd 2 t68_64) fun t69_65 =>
 bnd (aSt 1 t69_65 t67_62 H_63) fun H_66 =>
 bnd (aBin .add .no (nth vs_37 0) (.int .i64 1)) fun t70_67 =>
 again_39 [t70_67] H_66
def S32_74 (t25_15 : Value) (t46_35 : Value) (vs_37 : List Value) (H_38 : AHeap) (again_39 : List Value → AHeap → Prop) : Prop :=
 bnd (aIdxAddr 10 t46_35 (nth vs_37 0)) fun t50_41 =>
 bnd (aLdAgg 10 t50_41 H_38) fun t51_42 =>
 aAlloc [(.int .i64 0), (.slice none 0 0), (.int .i64 0), (.string ⟨#[]⟩), (.bool false), (.slice none 0 0), (.slice none 0 0), (.int .i64 0), (.slice none 0 0), (.slice none 0 0)] 94 H_38 fun t7_43 H_44 =>
 bnd (aSt 10 t7_43 t51_42 H_44) fun H_45 =>
 bnd (aNilCheck t25_15) fun t54_46 =>
 bnd (aAdd 2 t54_46) fun t55_47 =>
 bnd (aLdCell t55_47 H_45) fun t56_48 =>
 bnd (aAdd 0 t7_43) fun t57_49 =>
 bnd (aLdCell t57_49 H_45) fun t58_50 =>
 bnd (aAdd 1 t7_43) fun t59_51 =>
 bnd (aLdCell t59_51 H_45) fun t60_52 =>
 bnd (aAdd 2 t7_43) fun t62_53 =>
 bnd (aLdAgg 8 t62_53 H_45) fun t63_54 =>
 ACalls Try.prog 42 [t60_52] H_45 fun t61_55 H_56 =>
 ((bnd (aLdCell t55_47 H_56) fun t56_71 =>
 t56_71 = t56_48) ∧ (bnd (aLdCell t57_49 H_56) fun t58_72 =>
 t58_72 = t58_50) ∧ (bnd (aLdAgg 8 t62_53 H_56) fun t63_73 =>
 t63_73 = t63_54)) ∧
 ACalls Try.prog 65 [t63_54] H_56 fun t64_57 H_58 =>
 (S32_70 t25_15 vs_37 again_39 t55_47 t56_48 t57_49 t58_50 t61_55 t64_57 H_58)
def S32_75 (R : Value → AHeap → Prop) (t25_15 : Value) (t46_35 : Value) (t47_36 : Value) (vs_37 : List Value) (H_38 : AHeap) (again_39 : List Value → AHeap → Prop) : Prop :=
 bnd (aBin .lss .no (nth vs_37 0) t47_36) fun t49_40 =>
 aCond t49_40 (
 (S32_74 t25_15 t46_35 vs_37 H_38 again_39)) (
 R t25_15 H_38)
def S32_76 (a0 : Value) (R : Value → AHeap → Prop) (t25_15 : Value) (t29_19 : Value) (t30_20 : Value) (vs_21 : List Value) (H_22 : AHeap) (again_23 : List Value → AHeap → Prop) : Prop :=
 bnd (aBin .lss .no (nth vs_21 0) t30_20) fun t32_24 =>
 aCond t32_24 (
 (S32_32 t25_15 t29_19 vs_21 H_22 again_23)) (
 bnd (aNilCheck a0) fun t44_33 =>
 bnd (aAdd 2 t44_33) fun t45_34 =>
 bnd (aLdCell t45_34 H_22) fun t46_35 =>
 bnd (aLenSl t46_35) fun t47_36 =>
 aLoop [(.int .i64 0)] H_22 fun vs_37 H_38 again_39 =>
 (S32_75 R t25_15 t46_35 t47_36 vs_37 H_38 again_39))
def S32_79 (a0 : Value) (R : Value → AHeap → Prop) (t12_2 : Value) (t13_3 : Value) (t16_5 : Value) (t17_6 : Value) (H_10 : AHeap) (m_11 : Value) (t22_12 : Value) (H_13 : AHeap) : Prop :=
 ((bnd (aLdCell t12_2 H_13) fun t13_77 =>
 t13_77 = t13_3) ∧ (bnd (aLdCell t16_5 H_13) fun t17_78 =>
 t17_78 = t17_6) ∧ (H_13.at_ (blkOf m_11) = H_10.at_ (blkOf m_11))) ∧
 bnd (aFill [(.int .i64 0), (.int .i64 0), (.slice none 0 0), (.slice none 0 0), (.map none)] [(0, 1, t13_3), (1, 1, t17_6), (3, 1, t22_12), (4, 1, m_11)]) fun t24_14 =>
 aBox 88 (.agg t24_14.toArray) H_13 fun t25_15 H_16 =>
 bnd (aNilCheck a0) fun t27_17 =>
 bnd (aAdd 3 t27_17) fun t28_18 =>
 bnd (aLdCell t28_18 H_16) fun t29_19 =>
 bnd (aLenSl t29_19) fun t30_20 =>
 aLoop [(.int .i64 0)] H_16 fun vs_21 H_22 again_23 =>
 (S32_76 a0 R t25_15 t29_19 t30_20 vs_21 H_22 again_23)
def S32_80 (a0 : Value) (H : AHeap) (R : Value → AHeap → Prop) : Prop :=
 bnd (aNilCheck a0) fun t11_1 =>
 bnd (aAdd 0 t11_1) fun t12_2 =>
 bnd (aLdCell t12_2 H) fun t13_3 =>
 bnd (aNilCheck a0) fun t15_4 =>
 bnd (aAdd 1 t15_4) fun t16_5 =>
 bnd (aLdCell t16_5 H) fun t17_6 =>
 bnd (aNilCheck a0) fun t19_7 =>
 bnd (aAdd 3 t19_7) fun t20_8 =>
 bnd (aLdCell t20_8 H) fun t21_9 =>
 aMakeMap H fun m_11 H_10 =>
 ACalls Try.prog 64 [t21_9] H_10 fun t22_12 H_13 =>
 (S32_79 a0 R t12_2 t13_3 t16_5 t17_6 H_10 m_11 t22_12 H_13)
def S32 (a0 : Value) (H : AHeap) (R : Value → AHeap → Prop) : Prop :=
 bnd (aBin .eql .ptr a0 (.pointer none)) fun t9_0 =>
 aCond t9_0 (
 R (.pointer none) H) (
 (S32_80 a0 H R))
theorem S32_calls {a0 : Value} {H : AHeap} {R : Value → AHeap → Prop} (h : S32 a0 H R) : ACalls Try.prog 32 [a0] H R :=
  have e : S32 a0 H R = awpFn Try.prog (Try.f32.body.getD .skip) Try.f32.results.toList ann32 [a0] H R := by kernel_rfl
  calls_of_awp (fn := Try.f32) (c := Try.f32.body.getD .skip) (an := ann32) (by kernel_rfl) Try.func32 (by kernel_rfl) (by kernel_rfl) (of_decide_eq_true (by kernel_rfl)) (e ▸ h)

/-- 34: (*marginalia/store.Store).Wrap -/
def ann34 : Ann := (.two .leaf (.two (.two .leaf (.two (.two .leaf .leaf) .leaf)) (.two .leaf .leaf)))
def S34_18 (a0 : Value) (R : Value → AHeap → Prop) (t4_2 : Value) (t11_9 : Value) (H_10 : AHeap) : Prop :=
 bnd (aFill [(.int .i64 0), (.slice none 0 0), (.int .i64 0), (.string ⟨#[]⟩), (.bool false), (.slice none 0 0), (.slice none 0 0), (.int .i64 0), (.slice none 0 0), (.slice none 0 0)] [(0, 1, (.int .i64 10)), (2, 8, t11_9)]) fun t12_11 =>
 ACalls Try.prog 41 [a0, (.agg t12_11.toArray)] H_10 fun t13_12 H_13 =>
 bnd (aExtract t13_12 0) fun t14_14 =>
 bnd (aExtract t13_12 1) fun t15_15 =>
 bnd (aSt 2 t4_2 t14_14 H_13) fun H_16 =>
 bnd (aLdAgg 2 t4_2 H_16) fun r_17 =>
 R (.tuple #[r_17, t15_15]) H_16
def S34 (a0 : Value) (a1 : Value) (H : AHeap) (R : Value → AHeap → Prop) : Prop :=
 aBox 79 a1 H fun t3_0 H_1 =>
 aAlloc [(.int .i64 0), (.int .i64 0)] 28 H_1 fun t4_2 H_3 =>
 bnd (aBin .eql .ptr a0 (.pointer none)) fun t7_4 =>
 aCond t7_4 (
 bnd (aFill [(.int .i64 0), (.int .i64 0)] []) fun t8_5 =>
 bnd (aSt 2 t4_2 (.agg t8_5.toArray) H_3) fun H_6 =>
 bnd (aLdAgg 2 t4_2 H_6) fun r_7 =>
 R (.tuple #[r_7, (.int .i64 1)]) H_6) (
 bnd (aLdAgg 8 t3_0 H_3) fun t10_8 =>
 ACalls Try.prog 65 [t10_8] H_3 fun t11_9 H_10 =>
 (S34_18 a0 R t4_2 t11_9 H_10))
theorem S34_calls {a0 a1 : Value} {H : AHeap} {R : Value → AHeap → Prop} (h : S34 a0 a1 H R) : ACalls Try.prog 34 [a0, a1] H R :=
  have e : S34 a0 a1 H R = awpFn Try.prog (Try.f34.body.getD .skip) Try.f34.results.toList ann34 [a0, a1] H R := by kernel_rfl
  calls_of_awp (fn := Try.f34) (c := Try.f34.body.getD .skip) (an := ann34) (by kernel_rfl) Try.func34 (by kernel_rfl) (by kernel_rfl) (of_decide_eq_true (by kernel_rfl)) (e ▸ h)

/-- 35: (*marginalia/store.Store).Unwrap -/
def ann35 : Ann := (.two .leaf (.two (.two .leaf (.two (.two .leaf .leaf) .leaf)) (.two .leaf (.two (.two .leaf (.two (.two .leaf .leaf) .leaf)) (.two .leaf .leaf)))))
def S35_8 (R : Value → AHeap → Prop) (t4_2 : Value) (H_3 : AHeap) : Prop :=
 bnd (aFill [(.int .i64 0), (.string ⟨#[]⟩), (.bool false), (.slice none 0 0), (.slice none 0 0), (.int .i64 0), (.slice none 0 0), (.slice none 0 0)] []) fun t9_5 =>
 bnd (aSt 8 t4_2 (.agg t9_5.toArray) H_3) fun H_6 =>
 bnd (aLdAgg 8 t4_2 H_6) fun r_7 =>
 R (.tuple #[r_7, (.int .i64 1)]) H_6
def S35_41 (R : Value → AHeap → Prop) (t4_2 : Value) (H_36 : AHeap) : Prop :=
 bnd (aFill [(.int .i64 0), (.string ⟨#[]⟩), (.bool false), (.slice none 0 0), (.slice none 0 0), (.int .i64 0), (.slice none 0 0), (.slice none 0 0)] []) fun t22_38 =>
 bnd (aSt 8 t4_2 (.agg t22_38.toArray) H_36) fun H_39 =>
 bnd (aLdAgg 8 t4_2 H_39) fun r_40 =>
 R (.tuple #[r_40, (.int .i64 10)]) H_39
def S35_49 (R : Value → AHeap → Prop) (t4_2 : Value) (t12_10 : Value) (H_36 : AHeap) : Prop :=
 bnd (aNilCheck t12_10) fun t24_42 =>
 bnd (aAdd 2 t24_42) fun t25_43 =>
 bnd (aLdAgg 8 t25_43 H_36) fun t26_44 =>
 ACalls Try.prog 65 [t26_44] H_36 fun t27_45 H_46 =>
 bnd (aSt 8 t4_2 t27_45 H_46) fun H_47 =>
 bnd (aLdAgg 8 t4_2 H_47) fun r_48 =>
 R (.tuple #[r_48, (.int .i64 0)]) H_47
def S35_50 (R : Value → AHeap → Prop) (t4_2 : Value) (t12_10 : Value) (H_11 : AHeap) : Prop :=
 bnd (aBin .eql .ptr t12_10 (.pointer none)) fun t14_12 =>
 aGuardK t14_12 false (fun K_13 H_14 =>
 K_13 t12_10 H_14) (fun t16_15 H_16 =>
 aGuardK t14_12 false (fun K_17 H_18 =>
 bnd (aNilCheck t16_15) fun t17_19 =>
 K_17 t17_19 H_18) (fun t17_20 H_21 =>
 aGuardK t14_12 false (fun K_22 H_23 =>
 bnd (aAdd 0 t17_20) fun t18_24 =>
 K_22 t18_24 H_23) (fun t18_25 H_26 =>
 aGuardK t14_12 false (fun K_27 H_28 =>
 bnd (aLdCell t18_25 H_28) fun t19_29 =>
 K_27 t19_29 H_28) (fun t19_30 H_31 =>
 aGuardK t14_12 false (fun K_32 H_33 =>
 bnd (aBin .neq .no t19_30 (.int .i64 10)) fun t20_34 =>
 K_32 t20_34 H_33) (fun t20_35 H_36 =>
 bnd (aPick t14_12 (.bool true) t20_35) fun t21_37 =>
 aCond t21_37 (
 (S35_41 R t4_2 H_36)) (
 (S35_49 R t4_2 t12_10 H_36))) H_31) H_26) H_21) H_16) H_11
def S35 (a0 : Value) (a1 : Value) (H : AHeap) (R : Value → AHeap → Prop) : Prop :=
 aBox 28 a1 H fun t3_0 H_1 =>
 aAlloc [(.int .i64 0), (.string ⟨#[]⟩), (.bool false), (.slice none 0 0), (.slice none 0 0), (.int .i64 0), (.slice none 0 0), (.slice none 0 0)] 79 H_1 fun t4_2 H_3 =>
 bnd (aBin .eql .ptr a0 (.pointer none)) fun t8_4 =>
 aCond t8_4 (
 (S35_8 R t4_2 H_3)) (
 bnd (aLdAgg 2 t3_0 H_3) fun t11_9 =>
 ACalls Try.prog 62 [a0, t11_9] H_3 fun t12_10 H_11 =>
 (S35_50 R t4_2 t12_10 H_11))
theorem S35_calls {a0 a1 : Value} {H : AHeap} {R : Value → AHeap → Prop} (h : S35 a0 a1 H R) : ACalls Try.prog 35 [a0, a1] H R :=
  have e : S35 a0 a1 H R = awpFn Try.prog (Try.f35.body.getD .skip) Try.f35.results.toList ann35 [a0, a1] H R := by kernel_rfl
  calls_of_awp (fn := Try.f35) (c := Try.f35.body.getD .skip) (an := ann35) (by kernel_rfl) Try.func35 (by kernel_rfl) (by kernel_rfl) (of_decide_eq_true (by kernel_rfl)) (e ▸ h)

/-- 64: slices.Clone[[]string,string] -/
def ann64 : Ann := (.two .leaf (.two (.two .leaf (.two (.two .leaf .leaf) .leaf)) (.two .leaf .leaf)))
def S64 (a0 : Value) (H : AHeap) (R : Value → AHeap → Prop) : Prop :=
 aSlEq .eql a0 (.slice none 0 0) H fun t4_0 H_1 =>
 aCond t4_0 (
 R (.slice none 0 0) H_1) (
 aBuildSlice 1 0 9 [(.string ⟨#[]⟩)] [] H_1 fun t5_2 H_3 =>
 aAppend 1 16 9 t5_2 a0 H_3 fun t7_4 H_5 =>
 R t7_4 H_5)
theorem S64_calls {a0 : Value} {H : AHeap} {R : Value → AHeap → Prop} (h : S64 a0 H R) : ACalls Try.prog 64 [a0] H R :=
  have e : S64 a0 H R = awpFn Try.prog (Try.f64.body.getD .skip) Try.f64.results.toList ann64 [a0] H R := by kernel_rfl
  calls_of_awp (fn := Try.f64) (c := Try.f64.body.getD .skip) (an := ann64) (by kernel_rfl) Try.func64 (by kernel_rfl) (by kernel_rfl) (of_decide_eq_true (by kernel_rfl)) (e ▸ h)

/-- 65: marginalia/store.clone -/
def ann65 : Ann := (.two .leaf (.two (.draw [(0, []), (1, []), (2, []), (4, []), (5, []), (7, []), (8, []), (3, [5, 8]), (10, []), (11, []), (6, [8]), (9, []), (12, []), (13, []), (14, []), (15, []), (16, [])]) (.two .leaf (.two (.two .leaf (.one (.loop [25] [3, 25, 26, 27, 28, 29, 30, 31, 32, 33, 34, 35, 36, 37, 38] (.two .leaf (.two (.two .leaf .leaf) (.two (.one (.two .leaf (.draw [(0, []), (1, []), (2, []), (3, []), (4, []), (5, []), (6, []), (7, []), (8, [1]), (9, []), (10, [])]))) .leaf)))))) (.two .leaf .leaf)))))
def S65_49 (t1_0 : Value) (vs_33 : List Value) (H_34 : AHeap) (again_35 : List Value → AHeap → Prop) : Prop :=
 bnd (aAdd 4 t1_0) fun t28_37 =>
 bnd (aLdCell t28_37 H_34) fun t29_38 =>
 bnd (aAdd 4 t1_0) fun t31_39 =>
 bnd (aLdCell t31_39 H_34) fun t32_40 =>
 bnd (aIdxAddr 8 t32_40 (nth vs_33 0)) fun t34_41 =>
 bnd (aLdAgg 8 t34_41 H_34) fun t35_42 =>
 ACalls Try.prog 65 [t35_42] H_34 fun t36_43 H_44 =>
 ((bnd (aLdCell t28_37 H_44) fun t29_48 =>
 t29_48 = t29_38)) ∧
 bnd (aIdxAddr 8 t29_38 (nth vs_33 0)) fun t37_45 =>
 bnd (aSt 8 t37_45 t36_43 H_44) fun H_46 =>
 bnd (aBin .add .no (nth vs_33 0) (.int .i64 1)) fun t38_47 =>
 again_35 [t38_47] H_46
def S65_53 (R : Value → AHeap → Prop) (t1_0 : Value) (t2_2 : Value) (t24_32 : Value) (vs_33 : List Value) (H_34 : AHeap) (again_35 : List Value → AHeap → Prop) : Prop :=
 bnd (aBin .lss .no (nth vs_33 0) t24_32) fun t26_36 =>
 aCond t26_36 (
 (S65_49 t1_0 vs_33 H_34 again_35)) (
 bnd (aLdAgg 8 t1_0 H_34) fun t39_50 =>
 bnd (aSt 8 t2_2 t39_50 H_34) fun H_51 =>
 bnd (aLdAgg 8 t2_2 H_51) fun r_52 =>
 R r_52 H_51)
def S65_54 (R : Value → AHeap → Prop) (t1_0 : Value) (t2_2 : Value) (t7_11 : Value) (t15_14 : Value) (t10_15 : Value) (t13_17 : Value) (H_18 : AHeap) : Prop :=
 bnd (aSt 1 t15_14 t7_11 H_18) fun H_19 =>
 bnd (aAdd 6 t1_0) fun t16_20 =>
 bnd (aSt 1 t16_20 t10_15 H_19) fun H_21 =>
 bnd (aAdd 7 t1_0) fun t17_22 =>
 bnd (aSt 1 t17_22 t13_17 H_21) fun H_23 =>
 bnd (aAdd 4 t1_0) fun t18_24 =>
 bnd (aLdCell t18_24 H_23) fun t19_25 =>
 ACalls Try.prog 74 [t19_25] H_23 fun t20_26 H_27 =>
 bnd (aAdd 4 t1_0) fun t21_28 =>
 bnd (aSt 1 t21_28 t20_26 H_27) fun H_29 =>
 bnd (aAdd 4 t1_0) fun t22_30 =>
 bnd (aLdCell t22_30 H_29) fun t23_31 =>
 bnd (aLenSl t23_31) fun t24_32 =>
 aLoop [(.int .i64 0)] H_29 fun vs_33 H_34 again_35 =>
 (S65_53 R t1_0 t2_2 t24_32 vs_33 H_34 again_35)
def S65 (a0 : Value) (H : AHeap) (R : Value → AHeap → Prop) : Prop :=
 aBox 79 a0 H fun t1_0 H_1 =>
 aAlloc [(.int .i64 0), (.string ⟨#[]⟩), (.bool false), (.slice none 0 0), (.slice none 0 0), (.int .i64 0), (.slice none 0 0), (.slice none 0 0)] 79 H_1 fun t2_2 H_3 =>
 bnd (aAdd 2 t1_0) fun t4_4 =>
 bnd (aAdd 1 t4_4) fun t5_5 =>
 bnd (aLdCell t5_5 H_3) fun t6_6 =>
 bnd (aAdd 6 t1_0) fun t8_7 =>
 bnd (aLdCell t8_7 H_3) fun t9_8 =>
 bnd (aAdd 7 t1_0) fun t11_9 =>
 bnd (aLdCell t11_9 H_3) fun t12_10 =>
 ACalls Try.prog 72 [t6_6] H_3 fun t7_11 H_12 =>
 ((bnd (aLdCell t8_7 H_12) fun t9_56 =>
 t9_56 = t9_8) ∧ (bnd (aLdCell t11_9 H_12) fun t12_57 =>
 t12_57 = t12_10)) ∧
 bnd (aAdd 2 t1_0) fun t14_13 =>
 bnd (aAdd 1 t14_13) fun t15_14 =>
 ACalls Try.prog 73 [t9_8] H_12 fun t10_15 H_16 =>
 ((bnd (aLdCell t11_9 H_16) fun t12_55 =>
 t12_55 = t12_10)) ∧
 ACalls Try.prog 73 [t12_10] H_16 fun t13_17 H_18 =>
 (S65_54 R t1_0 t2_2 t7_11 t15_14 t10_15 t13_17 H_18)
theorem S65_calls {a0 : Value} {H : AHeap} {R : Value → AHeap → Prop} (h : S65 a0 H R) : ACalls Try.prog 65 [a0] H R :=
  have e : S65 a0 H R = awpFn Try.prog (Try.f65.body.getD .skip) Try.f65.results.toList ann65 [a0] H R := by kernel_rfl
  calls_of_awp (fn := Try.f65) (c := Try.f65.body.getD .skip) (an := ann65) (by kernel_rfl) Try.func65 (by kernel_rfl) (by kernel_rfl) (of_decide_eq_true (by kernel_rfl)) (e ▸ h)

/-- 72: slices.Clone[[]uint32,uint32] -/
def ann72 : Ann := (.two .leaf (.two (.two .leaf (.two (.two .leaf .leaf) .leaf)) (.two .leaf .leaf)))
def S72 (a0 : Value) (H : AHeap) (R : Value → AHeap → Prop) : Prop :=
 aSlEq .eql a0 (.slice none 0 0) H fun t4_0 H_1 =>
 aCond t4_0 (
 R (.slice none 0 0) H_1) (
 aBuildSlice 1 0 131 [(.int .u32 0)] [] H_1 fun t5_2 H_3 =>
 aAppend 1 4 131 t5_2 a0 H_3 fun t7_4 H_5 =>
 R t7_4 H_5)
theorem S72_calls {a0 : Value} {H : AHeap} {R : Value → AHeap → Prop} (h : S72 a0 H R) : ACalls Try.prog 72 [a0] H R :=
  have e : S72 a0 H R = awpFn Try.prog (Try.f72.body.getD .skip) Try.f72.results.toList ann72 [a0] H R := by kernel_rfl
  calls_of_awp (fn := Try.f72) (c := Try.f72.body.getD .skip) (an := ann72) (by kernel_rfl) Try.func72 (by kernel_rfl) (by kernel_rfl) (of_decide_eq_true (by kernel_rfl)) (e ▸ h)

/-- 73: slices.Clone[[]int,int] -/
def ann73 : Ann := (.two .leaf (.two (.two .leaf (.two (.two .leaf .leaf) .leaf)) (.two .leaf .leaf)))
def S73 (a0 : Value) (H : AHeap) (R : Value → AHeap → Prop) : Prop :=
 aSlEq .eql a0 (.slice none 0 0) H fun t4_0 H_1 =>
 aCond t4_0 (
 R (.slice none 0 0) H_1) (
 aBuildSlice 1 0 3 [(.int .i64 0)] [] H_1 fun t5_2 H_3 =>
 aAppend 1 8 3 t5_2 a0 H_3 fun t7_4 H_5 =>
 R t7_4 H_5)
theorem S73_calls {a0 : Value} {H : AHeap} {R : Value → AHeap → Prop} (h : S73 a0 H R) : ACalls Try.prog 73 [a0] H R :=
  have e : S73 a0 H R = awpFn Try.prog (Try.f73.body.getD .skip) Try.f73.results.toList ann73 [a0] H R := by kernel_rfl
  calls_of_awp (fn := Try.f73) (c := Try.f73.body.getD .skip) (an := ann73) (by kernel_rfl) Try.func73 (by kernel_rfl) (by kernel_rfl) (of_decide_eq_true (by kernel_rfl)) (e ▸ h)

/-- 74: slices.Clone[[]marginalia/api.Stx,marginalia/api.Stx] -/
def ann74 : Ann := (.two .leaf (.two (.two .leaf (.two (.two .leaf .leaf) .leaf)) (.two .leaf .leaf)))
def S74 (a0 : Value) (H : AHeap) (R : Value → AHeap → Prop) : Prop :=
 aSlEq .eql a0 (.slice none 0 0) H fun t4_0 H_1 =>
 aCond t4_0 (
 R (.slice none 0 0) H_1) (
 aBuildSlice 8 0 79 [(.int .i64 0), (.string ⟨#[]⟩), (.bool false), (.slice none 0 0), (.slice none 0 0), (.int .i64 0), (.slice none 0 0), (.slice none 0 0)] [] H_1 fun t5_2 H_3 =>
 aAppend 8 136 79 t5_2 a0 H_3 fun t7_4 H_5 =>
 R t7_4 H_5)
theorem S74_calls {a0 : Value} {H : AHeap} {R : Value → AHeap → Prop} (h : S74 a0 H R) : ACalls Try.prog 74 [a0] H R :=
  have e : S74 a0 H R = awpFn Try.prog (Try.f74.body.getD .skip) Try.f74.results.toList ann74 [a0] H R := by kernel_rfl
  calls_of_awp (fn := Try.f74) (c := Try.f74.body.getD .skip) (an := ann74) (by kernel_rfl) Try.func74 (by kernel_rfl) (by kernel_rfl) (of_decide_eq_true (by kernel_rfl)) (e ▸ h)

end Go.Proofs.Ytngldjajfpbmbaa.A
