/- The table of the law FairNumbers is the program's. Printed by program. -/
import Derived.Test.YtdpglpjahbiemaaGreatDoorProg
import Derived.Test.YtdpglpjahbiemaaGreatDoorEvE
import Derived.Test.YtdpglpjahbiemaaGreatDoorEvTabFn
namespace Go.Proofs.YtdpglpjahbiemaaGreatDoor.Ev.Fn
open Go Go.Proofs.YtdpglpjahbiemaaGreatDoor.Ev
set_option maxRecDepth 100000
theorem k4 : ∃ fn, Tryz.prog.funcs[4]? = some fn ∧ compFn Tryz.prog fn = some f4A := ⟨Tryz.f4, Tryz.func4, by kernel_rfl⟩
theorem k8 : ∃ fn, Tryz.prog.funcs[8]? = some fn ∧ compFn Tryz.prog fn = some f8A := ⟨Tryz.f8, Tryz.func8, by kernel_rfl⟩
theorem k9 : ∃ fn, Tryz.prog.funcs[9]? = some fn ∧ compFn Tryz.prog fn = some f9A := ⟨Tryz.f9, Tryz.func9, by kernel_rfl⟩
theorem k10 : ∃ fn, Tryz.prog.funcs[10]? = some fn ∧ compFn Tryz.prog fn = some f10A := ⟨Tryz.f10, Tryz.func10, by kernel_rfl⟩
theorem k11 : ∃ fn, Tryz.prog.funcs[11]? = some fn ∧ compFn Tryz.prog fn = some f11A := ⟨Tryz.f11, Tryz.func11, by kernel_rfl⟩
theorem k12 : ∃ fn, Tryz.prog.funcs[12]? = some fn ∧ compFn Tryz.prog fn = some f12A := ⟨Tryz.f12, Tryz.func12, by kernel_rfl⟩
theorem k15 : ∃ fn, Tryz.prog.funcs[15]? = some fn ∧ compFn Tryz.prog fn = some f15A := ⟨Tryz.f15, Tryz.func15, by kernel_rfl⟩
theorem k19 : ∃ fn, Tryz.prog.funcs[19]? = some fn ∧ compFn Tryz.prog fn = some f19A := ⟨Tryz.f19, Tryz.func19, by kernel_rfl⟩
theorem k20 : ∃ fn, Tryz.prog.funcs[20]? = some fn ∧ compFn Tryz.prog fn = some f20A := ⟨Tryz.f20, Tryz.func20, by kernel_rfl⟩
theorem k21 : ∃ fn, Tryz.prog.funcs[21]? = some fn ∧ compFn Tryz.prog fn = some f21A := ⟨Tryz.f21, Tryz.func21, by kernel_rfl⟩
theorem k22 : ∃ fn, Tryz.prog.funcs[22]? = some fn ∧ compFn Tryz.prog fn = some f22A := ⟨Tryz.f22, Tryz.func22, by kernel_rfl⟩
theorem k23 : ∃ fn, Tryz.prog.funcs[23]? = some fn ∧ compFn Tryz.prog fn = some f23A := ⟨Tryz.f23, Tryz.func23, by kernel_rfl⟩
theorem k27 : ∃ fn, Tryz.prog.funcs[27]? = some fn ∧ compFn Tryz.prog fn = some f27A := ⟨Tryz.f27, Tryz.func27, by kernel_rfl⟩
theorem k38 : ∃ fn, Tryz.prog.funcs[38]? = some fn ∧ compFn Tryz.prog fn = some f38A := ⟨Tryz.f38, Tryz.func38, by kernel_rfl⟩
theorem k39 : ∃ fn, Tryz.prog.funcs[39]? = some fn ∧ compFn Tryz.prog fn = some f39A := ⟨Tryz.f39, Tryz.func39, by kernel_rfl⟩
theorem k40 : ∃ fn, Tryz.prog.funcs[40]? = some fn ∧ compFn Tryz.prog fn = some f40A := ⟨Tryz.f40, Tryz.func40, by kernel_rfl⟩
theorem k41 : ∃ fn, Tryz.prog.funcs[41]? = some fn ∧ compFn Tryz.prog fn = some f41A := ⟨Tryz.f41, Tryz.func41, by kernel_rfl⟩
theorem k44 : ∃ fn, Tryz.prog.funcs[44]? = some fn ∧ compFn Tryz.prog fn = some f44A := ⟨Tryz.f44, Tryz.func44, by kernel_rfl⟩
theorem k45 : ∃ fn, Tryz.prog.funcs[45]? = some fn ∧ compFn Tryz.prog fn = some f45A := ⟨Tryz.f45, Tryz.func45, by kernel_rfl⟩
theorem k46 : ∃ fn, Tryz.prog.funcs[46]? = some fn ∧ compFn Tryz.prog fn = some f46A := ⟨Tryz.f46, Tryz.func46, by kernel_rfl⟩
theorem k47 : ∃ fn, Tryz.prog.funcs[47]? = some fn ∧ compFn Tryz.prog fn = some f47A := ⟨Tryz.f47, Tryz.func47, by kernel_rfl⟩
theorem k51 : ∃ fn, Tryz.prog.funcs[51]? = some fn ∧ compFn Tryz.prog fn = some f51A := ⟨Tryz.f51, Tryz.func51, by kernel_rfl⟩
theorem k59 : ∃ fn, Tryz.prog.funcs[59]? = some fn ∧ compFn Tryz.prog fn = some f59A := ⟨Tryz.f59, Tryz.func59, by kernel_rfl⟩
theorem k60 : ∃ fn, Tryz.prog.funcs[60]? = some fn ∧ compFn Tryz.prog fn = some f60A := ⟨Tryz.f60, Tryz.func60, by kernel_rfl⟩
theorem k61 : ∃ fn, Tryz.prog.funcs[61]? = some fn ∧ compFn Tryz.prog fn = some f61A := ⟨Tryz.f61, Tryz.func61, by kernel_rfl⟩
theorem k62 : ∃ fn, Tryz.prog.funcs[62]? = some fn ∧ compFn Tryz.prog fn = some f62A := ⟨Tryz.f62, Tryz.func62, by kernel_rfl⟩
theorem k63 : ∃ fn, Tryz.prog.funcs[63]? = some fn ∧ compFn Tryz.prog fn = some f63A := ⟨Tryz.f63, Tryz.func63, by kernel_rfl⟩
theorem k64 : ∃ fn, Tryz.prog.funcs[64]? = some fn ∧ compFn Tryz.prog fn = some f64A := ⟨Tryz.f64, Tryz.func64, by kernel_rfl⟩
theorem k65 : ∃ fn, Tryz.prog.funcs[65]? = some fn ∧ compFn Tryz.prog fn = some f65A := ⟨Tryz.f65, Tryz.func65, by kernel_rfl⟩
theorem k66 : ∃ fn, Tryz.prog.funcs[66]? = some fn ∧ compFn Tryz.prog fn = some f66A := ⟨Tryz.f66, Tryz.func66, by kernel_rfl⟩
theorem k67 : ∃ fn, Tryz.prog.funcs[67]? = some fn ∧ compFn Tryz.prog fn = some f67A := ⟨Tryz.f67, Tryz.func67, by kernel_rfl⟩
theorem k68 : ∃ fn, Tryz.prog.funcs[68]? = some fn ∧ compFn Tryz.prog fn = some f68A := ⟨Tryz.f68, Tryz.func68, by kernel_rfl⟩
theorem k69 : ∃ fn, Tryz.prog.funcs[69]? = some fn ∧ compFn Tryz.prog fn = some f69A := ⟨Tryz.f69, Tryz.func69, by kernel_rfl⟩
theorem k70 : ∃ fn, Tryz.prog.funcs[70]? = some fn ∧ compFn Tryz.prog fn = some f70A := ⟨Tryz.f70, Tryz.func70, by kernel_rfl⟩
theorem k76 : ∃ fn, Tryz.prog.funcs[76]? = some fn ∧ compFn Tryz.prog fn = some f76A := ⟨Tryz.f76, Tryz.func76, by kernel_rfl⟩
theorem k77 : ∃ fn, Tryz.prog.funcs[77]? = some fn ∧ compFn Tryz.prog fn = some f77A := ⟨Tryz.f77, Tryz.func77, by kernel_rfl⟩
theorem k79 : ∃ fn, Tryz.prog.funcs[79]? = some fn ∧ compFn Tryz.prog fn = some f79A := ⟨Tryz.f79, Tryz.func79, by kernel_rfl⟩
theorem k81 : ∃ fn, Tryz.prog.funcs[81]? = some fn ∧ compFn Tryz.prog fn = some f81A := ⟨Tryz.f81, Tryz.func81, by kernel_rfl⟩
theorem k89 : ∃ fn, Tryz.prog.funcs[89]? = some fn ∧ compFn Tryz.prog fn = some f89A := ⟨Tryz.f89, Tryz.func89, by kernel_rfl⟩
theorem k92 : ∃ fn, Tryz.prog.funcs[92]? = some fn ∧ compFn Tryz.prog fn = some f92A := ⟨Tryz.f92, Tryz.func92, by kernel_rfl⟩
theorem k94 : ∃ fn, Tryz.prog.funcs[94]? = some fn ∧ compFn Tryz.prog fn = some f94A := ⟨Tryz.f94, Tryz.func94, by kernel_rfl⟩
theorem k97 : ∃ fn, Tryz.prog.funcs[97]? = some fn ∧ compFn Tryz.prog fn = some f97A := ⟨Tryz.f97, Tryz.func97, by kernel_rfl⟩
theorem k98 : ∃ fn, Tryz.prog.funcs[98]? = some fn ∧ compFn Tryz.prog fn = some f98A := ⟨Tryz.f98, Tryz.func98, by kernel_rfl⟩
theorem k99 : ∃ fn, Tryz.prog.funcs[99]? = some fn ∧ compFn Tryz.prog fn = some f99A := ⟨Tryz.f99, Tryz.func99, by kernel_rfl⟩
theorem k100 : ∃ fn, Tryz.prog.funcs[100]? = some fn ∧ compFn Tryz.prog fn = some f100A := ⟨Tryz.f100, Tryz.func100, by kernel_rfl⟩
theorem k101 : ∃ fn, Tryz.prog.funcs[101]? = some fn ∧ compFn Tryz.prog fn = some f101A := ⟨Tryz.f101, Tryz.func101, by kernel_rfl⟩
theorem k102 : ∃ fn, Tryz.prog.funcs[102]? = some fn ∧ compFn Tryz.prog fn = some f102A := ⟨Tryz.f102, Tryz.func102, by kernel_rfl⟩
theorem k103 : ∃ fn, Tryz.prog.funcs[103]? = some fn ∧ compFn Tryz.prog fn = some f103A := ⟨Tryz.f103, Tryz.func103, by kernel_rfl⟩
theorem k104 : ∃ fn, Tryz.prog.funcs[104]? = some fn ∧ compFn Tryz.prog fn = some f104A := ⟨Tryz.f104, Tryz.func104, by kernel_rfl⟩
theorem k105 : ∃ fn, Tryz.prog.funcs[105]? = some fn ∧ compFn Tryz.prog fn = some f105A := ⟨Tryz.f105, Tryz.func105, by kernel_rfl⟩
theorem k106 : ∃ fn, Tryz.prog.funcs[106]? = some fn ∧ compFn Tryz.prog fn = some f106A := ⟨Tryz.f106, Tryz.func106, by kernel_rfl⟩
theorem k110 : ∃ fn, Tryz.prog.funcs[110]? = some fn ∧ compFn Tryz.prog fn = some f110A := ⟨Tryz.f110, Tryz.func110, by kernel_rfl⟩
theorem k112 : ∃ fn, Tryz.prog.funcs[112]? = some fn ∧ compFn Tryz.prog fn = some f112A := ⟨Tryz.f112, Tryz.func112, by kernel_rfl⟩
theorem k114 : ∃ fn, Tryz.prog.funcs[114]? = some fn ∧ compFn Tryz.prog fn = some f114A := ⟨Tryz.f114, Tryz.func114, by kernel_rfl⟩
theorem k115 : ∃ fn, Tryz.prog.funcs[115]? = some fn ∧ compFn Tryz.prog fn = some f115A := ⟨Tryz.f115, Tryz.func115, by kernel_rfl⟩
theorem k120 : ∃ fn, Tryz.prog.funcs[120]? = some fn ∧ compFn Tryz.prog fn = some f120A := ⟨Tryz.f120, Tryz.func120, by kernel_rfl⟩
theorem k121 : ∃ fn, Tryz.prog.funcs[121]? = some fn ∧ compFn Tryz.prog fn = some f121A := ⟨Tryz.f121, Tryz.func121, by kernel_rfl⟩
theorem k132 : ∃ fn, Tryz.prog.funcs[132]? = some fn ∧ compFn Tryz.prog fn = some f132A := ⟨Tryz.f132, Tryz.func132, by kernel_rfl⟩
theorem k135 : ∃ fn, Tryz.prog.funcs[135]? = some fn ∧ compFn Tryz.prog fn = some f135A := ⟨Tryz.f135, Tryz.func135, by kernel_rfl⟩
theorem k139 : ∃ fn, Tryz.prog.funcs[139]? = some fn ∧ compFn Tryz.prog fn = some f139A := ⟨Tryz.f139, Tryz.func139, by kernel_rfl⟩
theorem k140 : ∃ fn, Tryz.prog.funcs[140]? = some fn ∧ compFn Tryz.prog fn = some f140A := ⟨Tryz.f140, Tryz.func140, by kernel_rfl⟩
theorem k142 : ∃ fn, Tryz.prog.funcs[142]? = some fn ∧ compFn Tryz.prog fn = some f142A := ⟨Tryz.f142, Tryz.func142, by kernel_rfl⟩
theorem k144 : ∃ fn, Tryz.prog.funcs[144]? = some fn ∧ compFn Tryz.prog fn = some f144A := ⟨Tryz.f144, Tryz.func144, by kernel_rfl⟩
theorem k145 : ∃ fn, Tryz.prog.funcs[145]? = some fn ∧ compFn Tryz.prog fn = some f145A := ⟨Tryz.f145, Tryz.func145, by kernel_rfl⟩
theorem k146 : ∃ fn, Tryz.prog.funcs[146]? = some fn ∧ compFn Tryz.prog fn = some f146A := ⟨Tryz.f146, Tryz.func146, by kernel_rfl⟩
theorem k147 : ∃ fn, Tryz.prog.funcs[147]? = some fn ∧ compFn Tryz.prog fn = some f147A := ⟨Tryz.f147, Tryz.func147, by kernel_rfl⟩
theorem k148 : ∃ fn, Tryz.prog.funcs[148]? = some fn ∧ compFn Tryz.prog fn = some f148A := ⟨Tryz.f148, Tryz.func148, by kernel_rfl⟩
theorem k149 : ∃ fn, Tryz.prog.funcs[149]? = some fn ∧ compFn Tryz.prog fn = some f149A := ⟨Tryz.f149, Tryz.func149, by kernel_rfl⟩
theorem k150 : ∃ fn, Tryz.prog.funcs[150]? = some fn ∧ compFn Tryz.prog fn = some f150A := ⟨Tryz.f150, Tryz.func150, by kernel_rfl⟩
theorem k152 : ∃ fn, Tryz.prog.funcs[152]? = some fn ∧ compFn Tryz.prog fn = some f152A := ⟨Tryz.f152, Tryz.func152, by kernel_rfl⟩
theorem k153 : ∃ fn, Tryz.prog.funcs[153]? = some fn ∧ compFn Tryz.prog fn = some f153A := ⟨Tryz.f153, Tryz.func153, by kernel_rfl⟩
theorem k161 : ∃ fn, Tryz.prog.funcs[161]? = some fn ∧ compFn Tryz.prog fn = some f161A := ⟨Tryz.f161, Tryz.func161, by kernel_rfl⟩
theorem k162 : ∃ fn, Tryz.prog.funcs[162]? = some fn ∧ compFn Tryz.prog fn = some f162A := ⟨Tryz.f162, Tryz.func162, by kernel_rfl⟩
theorem k163 : ∃ fn, Tryz.prog.funcs[163]? = some fn ∧ compFn Tryz.prog fn = some f163A := ⟨Tryz.f163, Tryz.func163, by kernel_rfl⟩
theorem k167 : ∃ fn, Tryz.prog.funcs[167]? = some fn ∧ compFn Tryz.prog fn = some f167A := ⟨Tryz.f167, Tryz.func167, by kernel_rfl⟩
theorem k172 : ∃ fn, Tryz.prog.funcs[172]? = some fn ∧ compFn Tryz.prog fn = some f172A := ⟨Tryz.f172, Tryz.func172, by kernel_rfl⟩
theorem k179 : ∃ fn, Tryz.prog.funcs[179]? = some fn ∧ compFn Tryz.prog fn = some f179A := ⟨Tryz.f179, Tryz.func179, by kernel_rfl⟩
theorem k180 : ∃ fn, Tryz.prog.funcs[180]? = some fn ∧ compFn Tryz.prog fn = some f180A := ⟨Tryz.f180, Tryz.func180, by kernel_rfl⟩
theorem k181 : ∃ fn, Tryz.prog.funcs[181]? = some fn ∧ compFn Tryz.prog fn = some f181A := ⟨Tryz.f181, Tryz.func181, by kernel_rfl⟩
theorem k182 : ∃ fn, Tryz.prog.funcs[182]? = some fn ∧ compFn Tryz.prog fn = some f182A := ⟨Tryz.f182, Tryz.func182, by kernel_rfl⟩
theorem k183 : ∃ fn, Tryz.prog.funcs[183]? = some fn ∧ compFn Tryz.prog fn = some f183A := ⟨Tryz.f183, Tryz.func183, by kernel_rfl⟩
theorem k187 : ∃ fn, Tryz.prog.funcs[187]? = some fn ∧ compFn Tryz.prog fn = some f187A := ⟨Tryz.f187, Tryz.func187, by kernel_rfl⟩
theorem k188 : ∃ fn, Tryz.prog.funcs[188]? = some fn ∧ compFn Tryz.prog fn = some f188A := ⟨Tryz.f188, Tryz.func188, by kernel_rfl⟩
theorem k189 : ∃ fn, Tryz.prog.funcs[189]? = some fn ∧ compFn Tryz.prog fn = some f189A := ⟨Tryz.f189, Tryz.func189, by kernel_rfl⟩
theorem k194 : ∃ fn, Tryz.prog.funcs[194]? = some fn ∧ compFn Tryz.prog fn = some f194A := ⟨Tryz.f194, Tryz.func194, by kernel_rfl⟩
theorem k195 : ∃ fn, Tryz.prog.funcs[195]? = some fn ∧ compFn Tryz.prog fn = some f195A := ⟨Tryz.f195, Tryz.func195, by kernel_rfl⟩
theorem k196 : ∃ fn, Tryz.prog.funcs[196]? = some fn ∧ compFn Tryz.prog fn = some f196A := ⟨Tryz.f196, Tryz.func196, by kernel_rfl⟩
theorem k198 : ∃ fn, Tryz.prog.funcs[198]? = some fn ∧ compFn Tryz.prog fn = some f198A := ⟨Tryz.f198, Tryz.func198, by kernel_rfl⟩
theorem k206 : ∃ fn, Tryz.prog.funcs[206]? = some fn ∧ compFn Tryz.prog fn = some f206A := ⟨Tryz.f206, Tryz.func206, by kernel_rfl⟩
theorem k216 : ∃ fn, Tryz.prog.funcs[216]? = some fn ∧ compFn Tryz.prog fn = some f216A := ⟨Tryz.f216, Tryz.func216, by kernel_rfl⟩
theorem k226 : ∃ fn, Tryz.prog.funcs[226]? = some fn ∧ compFn Tryz.prog fn = some f226A := ⟨Tryz.f226, Tryz.func226, by kernel_rfl⟩
theorem k227 : ∃ fn, Tryz.prog.funcs[227]? = some fn ∧ compFn Tryz.prog fn = some f227A := ⟨Tryz.f227, Tryz.func227, by kernel_rfl⟩
theorem k232 : ∃ fn, Tryz.prog.funcs[232]? = some fn ∧ compFn Tryz.prog fn = some f232A := ⟨Tryz.f232, Tryz.func232, by kernel_rfl⟩
theorem k233 : ∃ fn, Tryz.prog.funcs[233]? = some fn ∧ compFn Tryz.prog fn = some f233A := ⟨Tryz.f233, Tryz.func233, by kernel_rfl⟩
theorem k235 : ∃ fn, Tryz.prog.funcs[235]? = some fn ∧ compFn Tryz.prog fn = some f235A := ⟨Tryz.f235, Tryz.func235, by kernel_rfl⟩
theorem k236 : ∃ fn, Tryz.prog.funcs[236]? = some fn ∧ compFn Tryz.prog fn = some f236A := ⟨Tryz.f236, Tryz.func236, by kernel_rfl⟩
theorem k237 : ∃ fn, Tryz.prog.funcs[237]? = some fn ∧ compFn Tryz.prog fn = some f237A := ⟨Tryz.f237, Tryz.func237, by kernel_rfl⟩
theorem k238 : ∃ fn, Tryz.prog.funcs[238]? = some fn ∧ compFn Tryz.prog fn = some f238A := ⟨Tryz.f238, Tryz.func238, by kernel_rfl⟩
theorem k239 : ∃ fn, Tryz.prog.funcs[239]? = some fn ∧ compFn Tryz.prog fn = some f239A := ⟨Tryz.f239, Tryz.func239, by kernel_rfl⟩
theorem k241 : ∃ fn, Tryz.prog.funcs[241]? = some fn ∧ compFn Tryz.prog fn = some f241A := ⟨Tryz.f241, Tryz.func241, by kernel_rfl⟩
theorem k243 : ∃ fn, Tryz.prog.funcs[243]? = some fn ∧ compFn Tryz.prog fn = some f243A := ⟨Tryz.f243, Tryz.func243, by kernel_rfl⟩
theorem k255 : ∃ fn, Tryz.prog.funcs[255]? = some fn ∧ compFn Tryz.prog fn = some f255A := ⟨Tryz.f255, Tryz.func255, by kernel_rfl⟩
theorem k261 : ∃ fn, Tryz.prog.funcs[261]? = some fn ∧ compFn Tryz.prog fn = some f261A := ⟨Tryz.f261, Tryz.func261, by kernel_rfl⟩
theorem k267 : ∃ fn, Tryz.prog.funcs[267]? = some fn ∧ compFn Tryz.prog fn = some f267A := ⟨Tryz.f267, Tryz.func267, by kernel_rfl⟩
theorem k274 : ∃ fn, Tryz.prog.funcs[274]? = some fn ∧ compFn Tryz.prog fn = some f274A := ⟨Tryz.f274, Tryz.func274, by kernel_rfl⟩
theorem k275 : ∃ fn, Tryz.prog.funcs[275]? = some fn ∧ compFn Tryz.prog fn = some f275A := ⟨Tryz.f275, Tryz.func275, by kernel_rfl⟩
theorem k278 : ∃ fn, Tryz.prog.funcs[278]? = some fn ∧ compFn Tryz.prog fn = some f278A := ⟨Tryz.f278, Tryz.func278, by kernel_rfl⟩
theorem k280 : ∃ fn, Tryz.prog.funcs[280]? = some fn ∧ compFn Tryz.prog fn = some f280A := ⟨Tryz.f280, Tryz.func280, by kernel_rfl⟩
theorem k306 : ∃ fn, Tryz.prog.funcs[306]? = some fn ∧ compFn Tryz.prog fn = some f306A := ⟨Tryz.f306, Tryz.func306, by kernel_rfl⟩
theorem tabOk : TabOk Tryz.prog tab := by
  intro p k h
  refine T.all_get (Q := fun p k => ∃ fn, Tryz.prog.funcs[p.num]? = some fn ∧ compFn Tryz.prog fn = some k) (g := id) ?_ p k h
  exact ⟨trivial, ⟨trivial, ⟨trivial, ⟨trivial, ⟨k15, ⟨trivial, ⟨k63, ⟨trivial, ⟨k255, trivial, trivial⟩, trivial⟩, trivial⟩, trivial⟩, ⟨k47, ⟨k79, trivial, trivial⟩, ⟨trivial, trivial, ⟨k239, trivial, trivial⟩⟩⟩⟩, ⟨k23, ⟨k39, ⟨trivial, ⟨k135, trivial, trivial⟩, trivial⟩, ⟨k103, ⟨k167, trivial, trivial⟩, trivial⟩⟩, ⟨trivial, trivial, ⟨trivial, ⟨k183, trivial, trivial⟩, trivial⟩⟩⟩⟩, ⟨k11, ⟨k19, ⟨trivial, ⟨k67, trivial, ⟨k195, trivial, trivial⟩⟩, ⟨k99, ⟨k163, trivial, trivial⟩, ⟨k227, trivial, trivial⟩⟩⟩, ⟨k51, ⟨trivial, ⟨k147, ⟨k275, trivial, trivial⟩, trivial⟩, trivial⟩, ⟨k115, ⟨k179, trivial, trivial⟩, ⟨k243, trivial, trivial⟩⟩⟩⟩, ⟨k27, ⟨trivial, ⟨trivial, ⟨k139, ⟨k267, trivial, trivial⟩, trivial⟩, trivial⟩, ⟨trivial, trivial, ⟨k235, trivial, trivial⟩⟩⟩, ⟨k59, trivial, ⟨trivial, ⟨k187, trivial, trivial⟩, trivial⟩⟩⟩⟩⟩, ⟨trivial, ⟨k9, ⟨trivial, ⟨trivial, ⟨k65, trivial, trivial⟩, ⟨k97, ⟨k161, trivial, trivial⟩, trivial⟩⟩, ⟨trivial, ⟨k81, ⟨k145, trivial, trivial⟩, trivial⟩, ⟨trivial, trivial, ⟨k241, trivial, trivial⟩⟩⟩⟩, ⟨trivial, ⟨k41, trivial, ⟨k105, trivial, ⟨k233, trivial, trivial⟩⟩⟩, ⟨trivial, ⟨k89, ⟨k153, trivial, trivial⟩, trivial⟩, ⟨k121, trivial, trivial⟩⟩⟩⟩, ⟨trivial, ⟨k21, ⟨trivial, ⟨k69, ⟨trivial, ⟨k261, trivial, trivial⟩, trivial⟩, trivial⟩, ⟨k101, trivial, trivial⟩⟩, ⟨trivial, ⟨trivial, ⟨k149, trivial, trivial⟩, trivial⟩, ⟨trivial, ⟨k181, trivial, trivial⟩, trivial⟩⟩⟩, ⟨trivial, ⟨k45, ⟨k77, trivial, trivial⟩, ⟨trivial, trivial, ⟨k237, trivial, trivial⟩⟩⟩, ⟨k61, trivial, ⟨trivial, ⟨k189, trivial, trivial⟩, trivial⟩⟩⟩⟩⟩⟩, ⟨trivial, ⟨k4, ⟨k8, ⟨trivial, ⟨trivial, ⟨k64, trivial, trivial⟩, trivial⟩, ⟨trivial, ⟨trivial, ⟨k144, trivial, trivial⟩, trivial⟩, ⟨k112, trivial, trivial⟩⟩⟩, ⟨trivial, ⟨k40, trivial, ⟨k104, trivial, ⟨k232, trivial, trivial⟩⟩⟩, ⟨trivial, ⟨trivial, ⟨k152, ⟨k280, trivial, trivial⟩, trivial⟩, ⟨k216, trivial, trivial⟩⟩, ⟨k120, trivial, trivial⟩⟩⟩⟩, ⟨k12, ⟨k20, ⟨trivial, ⟨k68, ⟨k132, trivial, trivial⟩, ⟨k196, trivial, trivial⟩⟩, ⟨k100, trivial, trivial⟩⟩, ⟨trivial, ⟨trivial, ⟨k148, trivial, trivial⟩, trivial⟩, ⟨trivial, ⟨k180, trivial, trivial⟩, trivial⟩⟩⟩, ⟨trivial, ⟨k44, ⟨k76, ⟨k140, trivial, trivial⟩, trivial⟩, ⟨trivial, ⟨k172, trivial, trivial⟩, ⟨k236, trivial, trivial⟩⟩⟩, ⟨k60, ⟨k92, trivial, trivial⟩, ⟨trivial, ⟨k188, trivial, trivial⟩, trivial⟩⟩⟩⟩⟩, ⟨trivial, ⟨k10, ⟨trivial, ⟨trivial, ⟨k66, trivial, ⟨k194, trivial, trivial⟩⟩, ⟨k98, ⟨k162, trivial, trivial⟩, ⟨k226, trivial, trivial⟩⟩⟩, ⟨trivial, ⟨trivial, ⟨k146, ⟨k274, trivial, trivial⟩, trivial⟩, trivial⟩, ⟨k114, ⟨trivial, ⟨k306, trivial, trivial⟩, trivial⟩, trivial⟩⟩⟩, ⟨trivial, ⟨trivial, trivial, ⟨k106, trivial, trivial⟩⟩, trivial⟩⟩, ⟨trivial, ⟨k22, ⟨k38, ⟨k70, trivial, ⟨k198, trivial, trivial⟩⟩, ⟨k102, trivial, trivial⟩⟩, ⟨trivial, ⟨trivial, ⟨k150, ⟨k278, trivial, trivial⟩, trivial⟩, trivial⟩, ⟨trivial, ⟨k182, trivial, trivial⟩, trivial⟩⟩⟩, ⟨trivial, ⟨k46, ⟨trivial, ⟨k142, trivial, trivial⟩, ⟨k206, trivial, trivial⟩⟩, ⟨k110, trivial, ⟨k238, trivial, trivial⟩⟩⟩, ⟨k62, ⟨k94, trivial, trivial⟩, trivial⟩⟩⟩⟩⟩⟩

theorem extOk : ExtOk Tryz.prog tab := by
  intro p e h args s s' v hx σ w vs hv hr
  have hq := T.all_get (Q := fun (p : Pos) (k : AFnK) => match k with | .go _ => True | .ext .indexByte => p.num = 232 | .ext .mapsClone => False | .ext .noEscape => False ) (g := id) (t := tab) ⟨trivial, ⟨trivial, ⟨trivial, ⟨trivial, ⟨trivial, ⟨trivial, ⟨trivial, ⟨trivial, ⟨trivial, trivial, trivial⟩, trivial⟩, trivial⟩, trivial⟩, ⟨trivial, ⟨trivial, trivial, trivial⟩, ⟨trivial, trivial, ⟨trivial, trivial, trivial⟩⟩⟩⟩, ⟨trivial, ⟨trivial, ⟨trivial, ⟨trivial, trivial, trivial⟩, trivial⟩, ⟨trivial, ⟨trivial, trivial, trivial⟩, trivial⟩⟩, ⟨trivial, trivial, ⟨trivial, ⟨trivial, trivial, trivial⟩, trivial⟩⟩⟩⟩, ⟨trivial, ⟨trivial, ⟨trivial, ⟨trivial, trivial, ⟨trivial, trivial, trivial⟩⟩, ⟨trivial, ⟨trivial, trivial, trivial⟩, ⟨trivial, trivial, trivial⟩⟩⟩, ⟨trivial, ⟨trivial, ⟨trivial, ⟨trivial, trivial, trivial⟩, trivial⟩, trivial⟩, ⟨trivial, ⟨trivial, trivial, trivial⟩, ⟨trivial, trivial, trivial⟩⟩⟩⟩, ⟨trivial, ⟨trivial, ⟨trivial, ⟨trivial, ⟨trivial, trivial, trivial⟩, trivial⟩, trivial⟩, ⟨trivial, trivial, ⟨trivial, trivial, trivial⟩⟩⟩, ⟨trivial, trivial, ⟨trivial, ⟨trivial, trivial, trivial⟩, trivial⟩⟩⟩⟩⟩, ⟨trivial, ⟨trivial, ⟨trivial, ⟨trivial, ⟨trivial, trivial, trivial⟩, ⟨trivial, ⟨trivial, trivial, trivial⟩, trivial⟩⟩, ⟨trivial, ⟨trivial, ⟨trivial, trivial, trivial⟩, trivial⟩, ⟨trivial, trivial, ⟨trivial, trivial, trivial⟩⟩⟩⟩, ⟨trivial, ⟨trivial, trivial, ⟨trivial, trivial, ⟨trivial, trivial, trivial⟩⟩⟩, ⟨trivial, ⟨trivial, ⟨trivial, trivial, trivial⟩, trivial⟩, ⟨trivial, trivial, trivial⟩⟩⟩⟩, ⟨trivial, ⟨trivial, ⟨trivial, ⟨trivial, ⟨trivial, ⟨trivial, trivial, trivial⟩, trivial⟩, trivial⟩, ⟨trivial, trivial, trivial⟩⟩, ⟨trivial, ⟨trivial, ⟨trivial, trivial, trivial⟩, trivial⟩, ⟨trivial, ⟨trivial, trivial, trivial⟩, trivial⟩⟩⟩, ⟨trivial, ⟨trivial, ⟨trivial, trivial, trivial⟩, ⟨trivial, trivial, ⟨trivial, trivial, trivial⟩⟩⟩, ⟨trivial, trivial, ⟨trivial, ⟨trivial, trivial, trivial⟩, trivial⟩⟩⟩⟩⟩⟩, ⟨trivial, ⟨trivial, ⟨trivial, ⟨trivial, ⟨trivial, ⟨trivial, trivial, trivial⟩, trivial⟩, ⟨trivial, ⟨trivial, ⟨trivial, trivial, trivial⟩, trivial⟩, ⟨trivial, trivial, trivial⟩⟩⟩, ⟨trivial, ⟨trivial, trivial, ⟨trivial, trivial, ⟨rfl, trivial, trivial⟩⟩⟩, ⟨trivial, ⟨trivial, ⟨trivial, ⟨trivial, trivial, trivial⟩, trivial⟩, ⟨trivial, trivial, trivial⟩⟩, ⟨trivial, trivial, trivial⟩⟩⟩⟩, ⟨trivial, ⟨trivial, ⟨trivial, ⟨trivial, ⟨trivial, trivial, trivial⟩, ⟨trivial, trivial, trivial⟩⟩, ⟨trivial, trivial, trivial⟩⟩, ⟨trivial, ⟨trivial, ⟨trivial, trivial, trivial⟩, trivial⟩, ⟨trivial, ⟨trivial, trivial, trivial⟩, trivial⟩⟩⟩, ⟨trivial, ⟨trivial, ⟨trivial, ⟨trivial, trivial, trivial⟩, trivial⟩, ⟨trivial, ⟨trivial, trivial, trivial⟩, ⟨trivial, trivial, trivial⟩⟩⟩, ⟨trivial, ⟨trivial, trivial, trivial⟩, ⟨trivial, ⟨trivial, trivial, trivial⟩, trivial⟩⟩⟩⟩⟩, ⟨trivial, ⟨trivial, ⟨trivial, ⟨trivial, ⟨trivial, trivial, ⟨trivial, trivial, trivial⟩⟩, ⟨trivial, ⟨trivial, trivial, trivial⟩, ⟨trivial, trivial, trivial⟩⟩⟩, ⟨trivial, ⟨trivial, ⟨trivial, ⟨trivial, trivial, trivial⟩, trivial⟩, trivial⟩, ⟨trivial, ⟨trivial, ⟨trivial, trivial, trivial⟩, trivial⟩, trivial⟩⟩⟩, ⟨trivial, ⟨trivial, trivial, ⟨trivial, trivial, trivial⟩⟩, trivial⟩⟩, ⟨trivial, ⟨trivial, ⟨trivial, ⟨trivial, trivial, ⟨trivial, trivial, trivial⟩⟩, ⟨trivial, trivial, trivial⟩⟩, ⟨trivial, ⟨trivial, ⟨trivial, ⟨trivial, trivial, trivial⟩, trivial⟩, trivial⟩, ⟨trivial, ⟨trivial, trivial, trivial⟩, trivial⟩⟩⟩, ⟨trivial, ⟨trivial, ⟨trivial, ⟨trivial, trivial, trivial⟩, ⟨trivial, trivial, trivial⟩⟩, ⟨trivial, trivial, ⟨trivial, trivial, trivial⟩⟩⟩, ⟨trivial, ⟨trivial, trivial, trivial⟩, trivial⟩⟩⟩⟩⟩⟩ p _ h
  cases e with
  | indexByte =>
    have hp : p.num = 232 := hq
    rw [hp]
    exact ext_indexByte Tryz.func232 (by kernel_rfl) (by kernel_rfl) (by kernel_rfl) (by kernel_rfl) hx hv hr
  | mapsClone => exact hq.elim
  | noEscape => exact hq.elim
end Go.Proofs.YtdpglpjahbiemaaGreatDoor.Ev.Fn
