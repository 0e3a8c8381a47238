/- Each resolved function is its function's translation: part 1. -/
import Derived.Test.YtbnabgaepphlnaaGreatAevT1
import Derived.Test.YtbnabgaepphlnaaGreatProg
import Derived.KernelRfl
set_option maxRecDepth 100000
namespace Go.Proofs.YtbnabgaepphlnaaGreat.T
open Go Go.Aev Go.Proofs
theorem x212 : ∃ fn, Tryz.prog.funcs[212]? = some fn ∧ trFunc Tryz.prog fn = some a212 := ⟨Tryz.f212, Tryz.func212, by kernel_rfl⟩
theorem x213 : ∃ fn, Tryz.prog.funcs[213]? = some fn ∧ trFunc Tryz.prog fn = some a213 := ⟨Tryz.f213, Tryz.func213, by kernel_rfl⟩
theorem x214 : ∃ fn, Tryz.prog.funcs[214]? = some fn ∧ trFunc Tryz.prog fn = some a214 := ⟨Tryz.f214, Tryz.func214, by kernel_rfl⟩
theorem x215 : ∃ fn, Tryz.prog.funcs[215]? = some fn ∧ trFunc Tryz.prog fn = some a215 := ⟨Tryz.f215, Tryz.func215, by kernel_rfl⟩
theorem x216 : ∃ fn, Tryz.prog.funcs[216]? = some fn ∧ trFunc Tryz.prog fn = some a216 := ⟨Tryz.f216, Tryz.func216, by kernel_rfl⟩
theorem x217 : ∃ fn, Tryz.prog.funcs[217]? = some fn ∧ trFunc Tryz.prog fn = some a217 := ⟨Tryz.f217, Tryz.func217, by kernel_rfl⟩
theorem x236 : ∃ fn, Tryz.prog.funcs[236]? = some fn ∧ trFunc Tryz.prog fn = some a236 := ⟨Tryz.f236, Tryz.func236, by kernel_rfl⟩
theorem x238 : ∃ fn, Tryz.prog.funcs[238]? = some fn ∧ trFunc Tryz.prog fn = some a238 := ⟨Tryz.f238, Tryz.func238, by kernel_rfl⟩
theorem x240 : ∃ fn, Tryz.prog.funcs[240]? = some fn ∧ trFunc Tryz.prog fn = some a240 := ⟨Tryz.f240, Tryz.func240, by kernel_rfl⟩
theorem x241 : ∃ fn, Tryz.prog.funcs[241]? = some fn ∧ trFunc Tryz.prog fn = some a241 := ⟨Tryz.f241, Tryz.func241, by kernel_rfl⟩
theorem x244 : ∃ fn, Tryz.prog.funcs[244]? = some fn ∧ trFunc Tryz.prog fn = some a244 := ⟨Tryz.f244, Tryz.func244, by kernel_rfl⟩
theorem x245 : ∃ fn, Tryz.prog.funcs[245]? = some fn ∧ trFunc Tryz.prog fn = some a245 := ⟨Tryz.f245, Tryz.func245, by kernel_rfl⟩
theorem x246 : ∃ fn, Tryz.prog.funcs[246]? = some fn ∧ trFunc Tryz.prog fn = some a246 := ⟨Tryz.f246, Tryz.func246, by kernel_rfl⟩
theorem x247 : ∃ fn, Tryz.prog.funcs[247]? = some fn ∧ trFunc Tryz.prog fn = some a247 := ⟨Tryz.f247, Tryz.func247, by kernel_rfl⟩
theorem x248 : ∃ fn, Tryz.prog.funcs[248]? = some fn ∧ trFunc Tryz.prog fn = some a248 := ⟨Tryz.f248, Tryz.func248, by kernel_rfl⟩
theorem x249 : ∃ fn, Tryz.prog.funcs[249]? = some fn ∧ trFunc Tryz.prog fn = some a249 := ⟨Tryz.f249, Tryz.func249, by kernel_rfl⟩
theorem x250 : ∃ fn, Tryz.prog.funcs[250]? = some fn ∧ trFunc Tryz.prog fn = some a250 := ⟨Tryz.f250, Tryz.func250, by kernel_rfl⟩
theorem x251 : ∃ fn, Tryz.prog.funcs[251]? = some fn ∧ trFunc Tryz.prog fn = some a251 := ⟨Tryz.f251, Tryz.func251, by kernel_rfl⟩
theorem x252 : ∃ fn, Tryz.prog.funcs[252]? = some fn ∧ trFunc Tryz.prog fn = some a252 := ⟨Tryz.f252, Tryz.func252, by kernel_rfl⟩
theorem x253 : ∃ fn, Tryz.prog.funcs[253]? = some fn ∧ trFunc Tryz.prog fn = some a253 := ⟨Tryz.f253, Tryz.func253, by kernel_rfl⟩
theorem x255 : ∃ fn, Tryz.prog.funcs[255]? = some fn ∧ trFunc Tryz.prog fn = some a255 := ⟨Tryz.f255, Tryz.func255, by kernel_rfl⟩
theorem x257 : ∃ fn, Tryz.prog.funcs[257]? = some fn ∧ trFunc Tryz.prog fn = some a257 := ⟨Tryz.f257, Tryz.func257, by kernel_rfl⟩
theorem x258 : ∃ fn, Tryz.prog.funcs[258]? = some fn ∧ trFunc Tryz.prog fn = some a258 := ⟨Tryz.f258, Tryz.func258, by kernel_rfl⟩
theorem x261 : ∃ fn, Tryz.prog.funcs[261]? = some fn ∧ trFunc Tryz.prog fn = some a261 := ⟨Tryz.f261, Tryz.func261, by kernel_rfl⟩
theorem x262 : ∃ fn, Tryz.prog.funcs[262]? = some fn ∧ trFunc Tryz.prog fn = some a262 := ⟨Tryz.f262, Tryz.func262, by kernel_rfl⟩
theorem x263 : ∃ fn, Tryz.prog.funcs[263]? = some fn ∧ trFunc Tryz.prog fn = some a263 := ⟨Tryz.f263, Tryz.func263, by kernel_rfl⟩
theorem x264 : ∃ fn, Tryz.prog.funcs[264]? = some fn ∧ trFunc Tryz.prog fn = some a264 := ⟨Tryz.f264, Tryz.func264, by kernel_rfl⟩
theorem x265 : ∃ fn, Tryz.prog.funcs[265]? = some fn ∧ trFunc Tryz.prog fn = some a265 := ⟨Tryz.f265, Tryz.func265, by kernel_rfl⟩
theorem x266 : ∃ fn, Tryz.prog.funcs[266]? = some fn ∧ trFunc Tryz.prog fn = some a266 := ⟨Tryz.f266, Tryz.func266, by kernel_rfl⟩
theorem x267 : ∃ fn, Tryz.prog.funcs[267]? = some fn ∧ trFunc Tryz.prog fn = some a267 := ⟨Tryz.f267, Tryz.func267, by kernel_rfl⟩
theorem x276 : ∃ fn, Tryz.prog.funcs[276]? = some fn ∧ trFunc Tryz.prog fn = some a276 := ⟨Tryz.f276, Tryz.func276, by kernel_rfl⟩
theorem x283 : ∃ fn, Tryz.prog.funcs[283]? = some fn ∧ trFunc Tryz.prog fn = some a283 := ⟨Tryz.f283, Tryz.func283, by kernel_rfl⟩
theorem x284 : ∃ fn, Tryz.prog.funcs[284]? = some fn ∧ trFunc Tryz.prog fn = some a284 := ⟨Tryz.f284, Tryz.func284, by kernel_rfl⟩
theorem x285 : ∃ fn, Tryz.prog.funcs[285]? = some fn ∧ trFunc Tryz.prog fn = some a285 := ⟨Tryz.f285, Tryz.func285, by kernel_rfl⟩
theorem x286 : ∃ fn, Tryz.prog.funcs[286]? = some fn ∧ trFunc Tryz.prog fn = some a286 := ⟨Tryz.f286, Tryz.func286, by kernel_rfl⟩
theorem x287 : ∃ fn, Tryz.prog.funcs[287]? = some fn ∧ trFunc Tryz.prog fn = some a287 := ⟨Tryz.f287, Tryz.func287, by kernel_rfl⟩
theorem x292 : ∃ fn, Tryz.prog.funcs[292]? = some fn ∧ trFunc Tryz.prog fn = some a292 := ⟨Tryz.f292, Tryz.func292, by kernel_rfl⟩
theorem x295 : ∃ fn, Tryz.prog.funcs[295]? = some fn ∧ trFunc Tryz.prog fn = some a295 := ⟨Tryz.f295, Tryz.func295, by kernel_rfl⟩
theorem x296 : ∃ fn, Tryz.prog.funcs[296]? = some fn ∧ trFunc Tryz.prog fn = some a296 := ⟨Tryz.f296, Tryz.func296, by kernel_rfl⟩
theorem x297 : ∃ fn, Tryz.prog.funcs[297]? = some fn ∧ trFunc Tryz.prog fn = some a297 := ⟨Tryz.f297, Tryz.func297, by kernel_rfl⟩
theorem x298 : ∃ fn, Tryz.prog.funcs[298]? = some fn ∧ trFunc Tryz.prog fn = some a298 := ⟨Tryz.f298, Tryz.func298, by kernel_rfl⟩
theorem x301 : ∃ fn, Tryz.prog.funcs[301]? = some fn ∧ trFunc Tryz.prog fn = some a301 := ⟨Tryz.f301, Tryz.func301, by kernel_rfl⟩
theorem x302 : ∃ fn, Tryz.prog.funcs[302]? = some fn ∧ trFunc Tryz.prog fn = some a302 := ⟨Tryz.f302, Tryz.func302, by kernel_rfl⟩
theorem x303 : ∃ fn, Tryz.prog.funcs[303]? = some fn ∧ trFunc Tryz.prog fn = some a303 := ⟨Tryz.f303, Tryz.func303, by kernel_rfl⟩
theorem x306 : ∃ fn, Tryz.prog.funcs[306]? = some fn ∧ trFunc Tryz.prog fn = some a306 := ⟨Tryz.f306, Tryz.func306, by kernel_rfl⟩
theorem x307 : ∃ fn, Tryz.prog.funcs[307]? = some fn ∧ trFunc Tryz.prog fn = some a307 := ⟨Tryz.f307, Tryz.func307, by kernel_rfl⟩
theorem x312 : ∃ fn, Tryz.prog.funcs[312]? = some fn ∧ trFunc Tryz.prog fn = some a312 := ⟨Tryz.f312, Tryz.func312, by kernel_rfl⟩
theorem x313 : ∃ fn, Tryz.prog.funcs[313]? = some fn ∧ trFunc Tryz.prog fn = some a313 := ⟨Tryz.f313, Tryz.func313, by kernel_rfl⟩
theorem x314 : ∃ fn, Tryz.prog.funcs[314]? = some fn ∧ trFunc Tryz.prog fn = some a314 := ⟨Tryz.f314, Tryz.func314, by kernel_rfl⟩
theorem x315 : ∃ fn, Tryz.prog.funcs[315]? = some fn ∧ trFunc Tryz.prog fn = some a315 := ⟨Tryz.f315, Tryz.func315, by kernel_rfl⟩
theorem x316 : ∃ fn, Tryz.prog.funcs[316]? = some fn ∧ trFunc Tryz.prog fn = some a316 := ⟨Tryz.f316, Tryz.func316, by kernel_rfl⟩
theorem x317 : ∃ fn, Tryz.prog.funcs[317]? = some fn ∧ trFunc Tryz.prog fn = some a317 := ⟨Tryz.f317, Tryz.func317, by kernel_rfl⟩
theorem x318 : ∃ fn, Tryz.prog.funcs[318]? = some fn ∧ trFunc Tryz.prog fn = some a318 := ⟨Tryz.f318, Tryz.func318, by kernel_rfl⟩
theorem x319 : ∃ fn, Tryz.prog.funcs[319]? = some fn ∧ trFunc Tryz.prog fn = some a319 := ⟨Tryz.f319, Tryz.func319, by kernel_rfl⟩
theorem x321 : ∃ fn, Tryz.prog.funcs[321]? = some fn ∧ trFunc Tryz.prog fn = some a321 := ⟨Tryz.f321, Tryz.func321, by kernel_rfl⟩
theorem x322 : ∃ fn, Tryz.prog.funcs[322]? = some fn ∧ trFunc Tryz.prog fn = some a322 := ⟨Tryz.f322, Tryz.func322, by kernel_rfl⟩
theorem x323 : ∃ fn, Tryz.prog.funcs[323]? = some fn ∧ trFunc Tryz.prog fn = some a323 := ⟨Tryz.f323, Tryz.func323, by kernel_rfl⟩
theorem x324 : ∃ fn, Tryz.prog.funcs[324]? = some fn ∧ trFunc Tryz.prog fn = some a324 := ⟨Tryz.f324, Tryz.func324, by kernel_rfl⟩
theorem x333 : ∃ fn, Tryz.prog.funcs[333]? = some fn ∧ trFunc Tryz.prog fn = some a333 := ⟨Tryz.f333, Tryz.func333, by kernel_rfl⟩
theorem x334 : ∃ fn, Tryz.prog.funcs[334]? = some fn ∧ trFunc Tryz.prog fn = some a334 := ⟨Tryz.f334, Tryz.func334, by kernel_rfl⟩
theorem x336 : ∃ fn, Tryz.prog.funcs[336]? = some fn ∧ trFunc Tryz.prog fn = some a336 := ⟨Tryz.f336, Tryz.func336, by kernel_rfl⟩
theorem x337 : ∃ fn, Tryz.prog.funcs[337]? = some fn ∧ trFunc Tryz.prog fn = some a337 := ⟨Tryz.f337, Tryz.func337, by kernel_rfl⟩
theorem x338 : ∃ fn, Tryz.prog.funcs[338]? = some fn ∧ trFunc Tryz.prog fn = some a338 := ⟨Tryz.f338, Tryz.func338, by kernel_rfl⟩
theorem x339 : ∃ fn, Tryz.prog.funcs[339]? = some fn ∧ trFunc Tryz.prog fn = some a339 := ⟨Tryz.f339, Tryz.func339, by kernel_rfl⟩
theorem x340 : ∃ fn, Tryz.prog.funcs[340]? = some fn ∧ trFunc Tryz.prog fn = some a340 := ⟨Tryz.f340, Tryz.func340, by kernel_rfl⟩
theorem x349 : ∃ fn, Tryz.prog.funcs[349]? = some fn ∧ trFunc Tryz.prog fn = some a349 := ⟨Tryz.f349, Tryz.func349, by kernel_rfl⟩
theorem x350 : ∃ fn, Tryz.prog.funcs[350]? = some fn ∧ trFunc Tryz.prog fn = some a350 := ⟨Tryz.f350, Tryz.func350, by kernel_rfl⟩
theorem x351 : ∃ fn, Tryz.prog.funcs[351]? = some fn ∧ trFunc Tryz.prog fn = some a351 := ⟨Tryz.f351, Tryz.func351, by kernel_rfl⟩
theorem x355 : ∃ fn, Tryz.prog.funcs[355]? = some fn ∧ trFunc Tryz.prog fn = some a355 := ⟨Tryz.f355, Tryz.func355, by kernel_rfl⟩
theorem x356 : ∃ fn, Tryz.prog.funcs[356]? = some fn ∧ trFunc Tryz.prog fn = some a356 := ⟨Tryz.f356, Tryz.func356, by kernel_rfl⟩
end Go.Proofs.YtbnabgaepphlnaaGreat.T
