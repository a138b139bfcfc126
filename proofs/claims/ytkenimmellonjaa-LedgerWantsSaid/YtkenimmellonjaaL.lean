/- The library that this program reaches, as the kit's shelf wants it laid: printed by a program. -/
import Derived.Shelf.Sort.Plain
import Derived.Shelf.Slices.In.SortNone
import Derived.Test.YtkenimmellonjaaProg
namespace Go.Proofs.Ytkenimmellonjaa
open Go.Shelf
def lays189_ren : Ren :=
  {
    f := fun x =>
      match x with
      | 189 => 68
      | 125 => 101
      | 257 => 100
      | 128 => 134
      | 129 => 135
      | 294 => 125
      | 295 => 126
      | 296 => 127
      | 297 => 128
      | 298 => 129
      | 299 => 130
      | 216 => 131
      | 300 => 132
      | 301 => 133
      | 328 => 145
      | 329 => 146
      | 330 => 147
      | 331 => 148
      | 332 => 149
      | 215 => 121
      | 343 => 160
      | n => n,
    t := fun x =>
      match x with
      | 28 => 22
      | 3 => 3
      | 46 => 130
      | 0 => 0
      | 51 => 155
      | 53 => 157
      | 4 => 4
      | 183 => 149
      | 182 => 148
      | 131 => 25
      | 5 => 5
      | 9 => 9
      | 218 => 163
      | 222 => 167
      | 228 => 174
      | 229 => 175
      | n => n,
    g := fun x =>
      have n := x;
      n }
theorem lays189 : Lays.n189 Try.prog lays189_ren :=
  { mixed := Eq.refl true, f125 := Eq.trans Try.func101 (congrArg some (Eq.refl (Body.n125 lays189_ren))),
    f128 := Eq.trans Try.func134 (congrArg some (Eq.refl (Body.n128 lays189_ren))),
    f129 := Eq.trans Try.func135 (congrArg some (Eq.refl (Body.n129 lays189_ren))),
    f189 := Eq.trans Try.func68 (congrArg some (Eq.refl (Body.n189 lays189_ren))),
    f215 := Eq.trans Try.func121 (congrArg some (Eq.refl (Body.n215 lays189_ren))),
    f216 := Eq.trans Try.func131 (congrArg some (Eq.refl (Body.n216 lays189_ren))),
    f257 := Eq.trans Try.func100 (congrArg some (Eq.refl (Body.n257 lays189_ren))),
    f294 := Eq.trans Try.func125 (congrArg some (Eq.refl (Body.n294 lays189_ren))),
    f295 := Eq.trans Try.func126 (congrArg some (Eq.refl (Body.n295 lays189_ren))),
    f296 := Eq.trans Try.func127 (congrArg some (Eq.refl (Body.n296 lays189_ren))),
    f297 := Eq.trans Try.func128 (congrArg some (Eq.refl (Body.n297 lays189_ren))),
    f298 := Eq.trans Try.func129 (congrArg some (Eq.refl (Body.n298 lays189_ren))),
    f299 := Eq.trans Try.func130 (congrArg some (Eq.refl (Body.n299 lays189_ren))),
    f300 := Eq.trans Try.func132 (congrArg some (Eq.refl (Body.n300 lays189_ren))),
    f301 := Eq.trans Try.func133 (congrArg some (Eq.refl (Body.n301 lays189_ren))),
    f328 := Eq.trans Try.func145 (congrArg some (Eq.refl (Body.n328 lays189_ren))),
    f329 := Eq.trans Try.func146 (congrArg some (Eq.refl (Body.n329 lays189_ren))),
    f330 := Eq.trans Try.func147 (congrArg some (Eq.refl (Body.n330 lays189_ren))),
    f331 := Eq.trans Try.func148 (congrArg some (Eq.refl (Body.n331 lays189_ren))),
    f332 := Eq.trans Try.func149 (congrArg some (Eq.refl (Body.n332 lays189_ren))),
    f343 := Eq.trans Try.func160 (congrArg some (Eq.refl (Body.n343 lays189_ren))), t0 := Try.underlying0,
    a0 := Try.isAgg0, z0 := Try.sizeOf0, v0 := Try.zeroValue0, t3 := Try.underlying3, a3 := Try.isAgg3, z3 := Try.sizeOf3,
    v3 := Try.zeroValue3, t4 := Try.underlying4, a4 := Try.isAgg4, z4 := Try.sizeOf4, v4 := Try.zeroValue4,
    t5 := Try.underlying5, a5 := Try.isAgg5, z5 := Try.sizeOf5, v5 := Try.zeroValue5, t9 := Try.underlying9,
    a9 := Try.isAgg9, z9 := Try.sizeOf9, v9 := Try.zeroValue9, t28 := Try.underlying22, a28 := Try.isAgg22,
    z28 := Try.sizeOf22, v28 := Try.zeroValue22, t46 := Try.underlying130, a46 := Try.isAgg130, z46 := Try.sizeOf130,
    v46 := Try.zeroValue130, t51 := Try.underlying155, a51 := Try.isAgg155, z51 := Try.sizeOf155, v51 := Try.zeroValue155,
    t53 := Try.underlying157, a53 := Try.isAgg157, z53 := Try.sizeOf157, v53 := Try.zeroValue157,
    t131 := Try.underlying25, a131 := Try.isAgg25, z131 := Try.sizeOf25, v131 := Try.zeroValue25,
    t182 := Try.underlying148, a182 := Try.isAgg148, z182 := Try.sizeOf148, v182 := Try.zeroValue148,
    t183 := Try.underlying149, a183 := Try.isAgg149, z183 := Try.sizeOf149, v183 := Try.zeroValue149,
    t218 := Try.underlying163, a218 := Try.isAgg163, z218 := Try.sizeOf163, v218 := Try.zeroValue163,
    t222 := Try.underlying167, a222 := Try.isAgg167, z222 := Try.sizeOf167, v222 := Try.zeroValue167,
    t228 := Try.underlying174, a228 := Try.isAgg174, z228 := Try.sizeOf174, v228 := Try.zeroValue174,
    t229 := Try.underlying175, a229 := Try.isAgg175, z229 := Try.sizeOf175, v229 := Try.zeroValue175 }
end Go.Proofs.Ytkenimmellonjaa
