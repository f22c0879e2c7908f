/-
  The reference: all blocks.
-/
import Derived.Test.YtknoonkjkdjkbaaRs4
import Derived.Test.YtknoonkjkdjkbaaRs5
namespace Go.Proofs.Ytknoonkjkdjkbaa
open Go.RowKit
attribute [local go_sem] wv_mod wv_unot wv_addm wv_mul24 wv_mul16 wv_mul8 wb_conv wv_add wv_bits_and wv_bits_or wv_bits_xor wv_shr wv_shl wv_shr3 wv_shr10 wv_not wv_not'

set_option maxHeartbeats 16000000 in
set_option maxRecDepth 1000000 in
theorem loop3 (u1 u2 u3 u4 u7 u8 u9 u10 u11 u12 u13 u14 u15 u16 u17 u18 u19 u20 u21 u22 u23 u24 u25 u26 u27 u28 u29 u30 u31 u32 u33 u34 u35 u36 u37 u38 u39 u40 u41 u42 u43 u44 u45 u46 u47 u48 u49 u50 u51 u52 u53 u54 u55 u56 u57 u58 u59 u60 u61 u62 u63 u64 u65 u66 u67 u68 u69 u70 u71 u72 u73 u74 u75 u76 u77 u78 u79 u80 u81 u82 u83 u84 u85 u86 u87 u88 u89 u90 u91 u92 u93 u94 u95 u96 u97 u98 u99 u100 u101 u102 u103 u104 u105 u106 u107 u108 u109 u110 u111 u112 u113 u114 u115 u116 u117 u118 u119 u120 u121 u122 u123 u124 u125 u126 u127 u128 u129 u130 u131 u132 u133 u134 u135 u136 u137 u138 u139 u140 u141 u142 u143 u144 u145 u146 u147 u148 u149 u150 u151 u152 u153 u154 u155 u156 u157 u158 u159 u160 u161 u162 u163 u164 u165 u166 u167 u168 u169 u170 u171 u172 u173 u174 u175 u176 u177 u178 u179 u180 u181 u182 u183 u184 u185 u186 u187 u188 u189 u190 u191 u192 u193 u194 u195 u196 u197 u198 u199 u200 u201 u202 u203 u204 u205 u206 u207 u208 u209 u210 u211 u212 u213 u214 u215 u216 u217 u218 u219 u220 u221 u222 u223 u224 u225 u226 u227 u228 u229 u230 u231 u232 u233 u234 u235 u236 u237 u238 u239 u240 u241 u242 u243 u244 u245 u246 u247 u248 u249 u250 u251 u252 u253 u254 u255 u256 u257 u258 u259 u260 u261 u262 u263 u264 u265 u266 u267 u268 u269 u270 u271 u272 u273 u274 u275 u276 u277 u278 u279 u280 u281 u282 u283 u284 u285 u286 u287 u288 u289 u290 u291 u292 u293 u294 u295 u296 u297 u298 u299 u300 u301 u302 u303 u304 u305 u306 u307 u308 u309 u310 u311 u312 u313 : Value) (Ab A5 A6 : Option Addr) (L capb c5 c6 : Nat) (l : List UInt8) (w w4 : World) (hl : l.length ≤ 5000)
    (HP : Hid (L = 64 * blocksOf l)) (hc2 : L ≤ capb) (hc5 : 8 ≤ c5) (Rb0 : Hid (Rd w4 w4.heap.size 1 Ab L (b8s (padded l)))) (Rh0 : Hid (Rd w4 w4.heap.size 1 A5 8 (w32s hTab.list))) (Rk0 : Hid (Rd w4 w4.heap.size 1 A6 64 (w32s kTab))) (hB4 : Below w.heap.size w w4)
    (K : Act → World → Prop) (Q9 : Exit → Act → World → Prop)
    (hK : ∀ (v7 v8 v9 v10 v11 v12 v13 v14 v15 v16 v17 v18 v19 v20 v21 v57 v58 v59 v60 v61 v62 v63 v64 v65 v66 v67 v68 v69 v70 v71 v72 v73 v74 v75 v76 v77 v78 v79 v80 v81 v82 v83 v84 v85 v86 v87 v88 v89 v90 v91 v92 v93 v94 v95 v96 v97 v98 v99 v100 v101 v102 v103 v104 v105 v106 v107 v108 v109 v110 v111 v112 v113 v114 v115 v116 v117 v118 v119 v120 v121 v122 v123 v124 v125 v126 v127 v128 v129 v130 v131 v132 v133 v134 v135 v136 v137 v138 v139 v140 v141 v142 v143 v144 v145 v146 v147 v148 v149 v150 v151 v152 v153 v154 v155 v156 v157 v158 v159 v160 v161 v162 v163 v164 v165 v166 v167 v168 v169 v170 v171 v172 v173 v174 v175 v176 v177 v178 v179 v180 v181 v182 v183 v184 v185 v186 v187 v188 v189 v190 v191 v192 v193 v194 v195 v196 v197 v198 v199 v200 v201 v202 v203 v204 v205 v206 v207 v208 v209 v210 v211 v212 v213 v214 v215 v216 v217 v218 v219 v220 v221 v222 v223 v224 v225 v226 v227 v228 v229 v230 v231 v232 v233 v234 v235 v236 v237 v238 v239 v240 v241 v242 v243 v244 v245 v246 v247 v248 v249 v250 v251 v252 v253 v254 v255 v256 v257 v258 v259 v260 v261 v262 v263 v264 v265 v266 v267 v268 v269 v270 v271 v272 v273 v274 v275 v276 v277 v278 v279 v280 v281 v282 v283 v284 v285 v286 v287 v288 v289 v290 v291 : Value) (Ai Ah : Option Addr) (capi ch : Nat) (w' : World), Rd w' w'.heap.size 1 Ah 8 (w32s (hashTo (padded l) (blocksOf l)).list) → 8 ≤ ch → Below w.heap.size w w' → K { tmps := List.toArray (.slice Ai 0 capi :: u1 :: u2 :: u3 :: u4 :: .slice Ah 8 ch :: .slice A6 64 c6 :: v7 :: v8 :: v9 :: v10 :: v11 :: v12 :: v13 :: v14 :: v15 :: v16 :: v17 :: v18 :: v19 :: v20 :: v21 :: u22 :: u23 :: u24 :: u25 :: u26 :: u27 :: u28 :: u29 :: u30 :: u31 :: u32 :: u33 :: u34 :: u35 :: u36 :: u37 :: u38 :: u39 :: u40 :: u41 :: u42 :: u43 :: u44 :: u45 :: u46 :: u47 :: u48 :: u49 :: u50 :: u51 :: u52 :: u53 :: u54 :: u55 :: u56 :: v57 :: v58 :: v59 :: v60 :: v61 :: v62 :: v63 :: v64 :: v65 :: v66 :: v67 :: v68 :: v69 :: v70 :: v71 :: v72 :: v73 :: v74 :: v75 :: v76 :: v77 :: v78 :: v79 :: v80 :: v81 :: v82 :: v83 :: v84 :: v85 :: v86 :: v87 :: v88 :: v89 :: v90 :: v91 :: v92 :: v93 :: v94 :: v95 :: v96 :: v97 :: v98 :: v99 :: v100 :: v101 :: v102 :: v103 :: v104 :: v105 :: v106 :: v107 :: v108 :: v109 :: v110 :: v111 :: v112 :: v113 :: v114 :: v115 :: v116 :: v117 :: v118 :: v119 :: v120 :: v121 :: v122 :: v123 :: v124 :: v125 :: v126 :: v127 :: v128 :: v129 :: v130 :: v131 :: v132 :: v133 :: v134 :: v135 :: v136 :: v137 :: v138 :: v139 :: v140 :: v141 :: v142 :: v143 :: v144 :: v145 :: v146 :: v147 :: v148 :: v149 :: v150 :: v151 :: v152 :: v153 :: v154 :: v155 :: v156 :: v157 :: v158 :: v159 :: v160 :: v161 :: v162 :: v163 :: v164 :: v165 :: v166 :: v167 :: v168 :: v169 :: v170 :: v171 :: v172 :: v173 :: v174 :: v175 :: v176 :: v177 :: v178 :: v179 :: v180 :: v181 :: v182 :: v183 :: v184 :: v185 :: v186 :: v187 :: v188 :: v189 :: v190 :: v191 :: v192 :: v193 :: v194 :: v195 :: v196 :: v197 :: v198 :: v199 :: v200 :: v201 :: v202 :: v203 :: v204 :: v205 :: v206 :: v207 :: v208 :: v209 :: v210 :: v211 :: v212 :: v213 :: v214 :: v215 :: v216 :: v217 :: v218 :: v219 :: v220 :: v221 :: v222 :: v223 :: v224 :: v225 :: v226 :: v227 :: v228 :: v229 :: v230 :: v231 :: v232 :: v233 :: v234 :: v235 :: v236 :: v237 :: v238 :: v239 :: v240 :: v241 :: v242 :: v243 :: v244 :: v245 :: v246 :: v247 :: v248 :: v249 :: v250 :: v251 :: v252 :: v253 :: v254 :: v255 :: v256 :: v257 :: v258 :: v259 :: v260 :: v261 :: v262 :: v263 :: v264 :: v265 :: v266 :: v267 :: v268 :: v269 :: v270 :: v271 :: v272 :: v273 :: v274 :: v275 :: v276 :: v277 :: v278 :: v279 :: v280 :: v281 :: v282 :: v283 :: v284 :: v285 :: v286 :: v287 :: v288 :: v289 :: v290 :: v291 :: u292 :: u293 :: u294 :: u295 :: u296 :: u297 :: u298 :: u299 :: u300 :: u301 :: u302 :: u303 :: u304 :: u305 :: u306 :: u307 :: u308 :: u309 :: u310 :: u311 :: u312 :: u313 :: []), defers := [] } w') :
    Code.wp Try.prog lp3 (Exit.inBlock 4 (Exit.then K Q9)) { tmps := List.toArray (.slice Ab L capb :: u1 :: u2 :: u3 :: u4 :: .slice A5 8 c5 :: .slice A6 64 c6 :: u7 :: u8 :: u9 :: u10 :: u11 :: u12 :: u13 :: u14 :: u15 :: u16 :: u17 :: u18 :: u19 :: u20 :: u21 :: u22 :: u23 :: u24 :: u25 :: u26 :: u27 :: u28 :: u29 :: u30 :: u31 :: u32 :: u33 :: u34 :: u35 :: u36 :: u37 :: u38 :: u39 :: u40 :: u41 :: u42 :: u43 :: u44 :: u45 :: u46 :: u47 :: u48 :: u49 :: u50 :: u51 :: u52 :: u53 :: u54 :: u55 :: u56 :: u57 :: u58 :: u59 :: u60 :: u61 :: u62 :: u63 :: u64 :: u65 :: u66 :: u67 :: u68 :: u69 :: u70 :: u71 :: u72 :: u73 :: u74 :: u75 :: u76 :: u77 :: u78 :: u79 :: u80 :: u81 :: u82 :: u83 :: u84 :: u85 :: u86 :: u87 :: u88 :: u89 :: u90 :: u91 :: u92 :: u93 :: u94 :: u95 :: u96 :: u97 :: u98 :: u99 :: u100 :: u101 :: u102 :: u103 :: u104 :: u105 :: u106 :: u107 :: u108 :: u109 :: u110 :: u111 :: u112 :: u113 :: u114 :: u115 :: u116 :: u117 :: u118 :: u119 :: u120 :: u121 :: u122 :: u123 :: u124 :: u125 :: u126 :: u127 :: u128 :: u129 :: u130 :: u131 :: u132 :: u133 :: u134 :: u135 :: u136 :: u137 :: u138 :: u139 :: u140 :: u141 :: u142 :: u143 :: u144 :: u145 :: u146 :: u147 :: u148 :: u149 :: u150 :: u151 :: u152 :: u153 :: u154 :: u155 :: u156 :: u157 :: u158 :: u159 :: u160 :: u161 :: u162 :: u163 :: u164 :: u165 :: u166 :: u167 :: u168 :: u169 :: u170 :: u171 :: u172 :: u173 :: u174 :: u175 :: u176 :: u177 :: u178 :: u179 :: u180 :: u181 :: u182 :: u183 :: u184 :: u185 :: u186 :: u187 :: u188 :: u189 :: u190 :: u191 :: u192 :: u193 :: u194 :: u195 :: u196 :: u197 :: u198 :: u199 :: u200 :: u201 :: u202 :: u203 :: u204 :: u205 :: u206 :: u207 :: u208 :: u209 :: u210 :: u211 :: u212 :: u213 :: u214 :: u215 :: u216 :: u217 :: u218 :: u219 :: u220 :: u221 :: u222 :: u223 :: u224 :: u225 :: u226 :: u227 :: u228 :: u229 :: u230 :: u231 :: u232 :: u233 :: u234 :: u235 :: u236 :: u237 :: u238 :: u239 :: u240 :: u241 :: u242 :: u243 :: u244 :: u245 :: u246 :: u247 :: u248 :: u249 :: u250 :: u251 :: u252 :: u253 :: u254 :: u255 :: u256 :: u257 :: u258 :: u259 :: u260 :: u261 :: u262 :: u263 :: u264 :: u265 :: u266 :: u267 :: u268 :: u269 :: u270 :: u271 :: u272 :: u273 :: u274 :: u275 :: u276 :: u277 :: u278 :: u279 :: u280 :: u281 :: u282 :: u283 :: u284 :: u285 :: u286 :: u287 :: u288 :: u289 :: u290 :: u291 :: u292 :: u293 :: u294 :: u295 :: u296 :: u297 :: u298 :: u299 :: u300 :: u301 :: u302 :: u303 :: u304 :: u305 :: u306 :: u307 :: u308 :: u309 :: u310 :: u311 :: u312 :: u313 :: []), defers := [] } w4 := by
  have HK := Lib.hid hK; clear hK
  conv => arg 2; whnf
  go_loopw [0, 5] (fun v hv wr => ∃ i M capi : Nat, ∃ Ai Ah ch, i ≤ blocksOf l ∧ M + 64 * i = L ∧ v = .slice Ai M capi ∧ M ≤ capi ∧ Rd wr wr.heap.size 1 Ai M (b8s ((padded l).drop (64 * i))) ∧
      hv = .slice Ah 8 ch ∧ 8 ≤ ch ∧ Rd wr wr.heap.size 1 Ah 8 (w32s (hashTo (padded l) i).list) ∧ Rd wr wr.heap.size 1 A6 64 (w32s kTab) ∧ Below w.heap.size w wr)
    (fun v _ _ => match v with | .slice _ M _ => M | _ => 0)
  case atStart =>
    exact ⟨0, L, capb, Ab, A5, c5, by omega, by omega, rfl, hc2, by simpa using Rb0.out, rfl, hc5, Rh0.out, Rk0.out, hB4⟩
  case round =>
    obtain ⟨i, M, capi, Ai, Ah, ch, hi, hM, rfl, hMc, rb, rfl, hch, rh, rk, hB5⟩ := hrel
    have Rb := Lib.hid rb; have Rh := Lib.hid rh; have Rk := Lib.hid rk; clear rb rh rk Rb0 Rh0 Rk0 hB4
    have hs5 := hB5.size
    by_cases hib : i < blocksOf l
    · have hM64 : 64 ≤ M := by have := HP.out; omega
      have hbl : blocksOf l ≤ 80 := by unfold blocksOf; omega
      have hM5 : M ≤ 5200 := by have := HP.out; omega
      have HM := Lib.hid hM; clear hM
      have hXl : ((padded l).drop (64 * i)).length = M := by rw [List.length_drop, padded_length]; have := HM.out; have := HP.out; omega
      have Hst : Hid (hashTo (padded l) (i + 1) = (hashTo (padded l) i).add (S8.rounds kTab (sched ((padded l).drop (64 * i)) 64) (hashTo (padded l) i) 64)) := rfl
      have Hdd : Hid ((padded l).drop (64 * (i + 1)) = ((padded l).drop (64 * i)).drop 64) := by rw [Hid, List.drop_drop, Nat.mul_add]
      generalize (padded l).drop (64 * i) = X at *
      generalize hashTo (padded l) i = st at *
      have HXl := Lib.hid hXl; clear hXl
      obtain ⟨gb, ob, rfl, hgb, hcb⟩ := Rb.out.at_ (by omega)
      obtain ⟨gh, oh, rfl, hgh, hch8⟩ := Rh.out.at_ (by omega)
      obtain ⟨gk, ok, rfl, hgk, hck64⟩ := Rk.out.at_ (by omega)
      have Hcb : Hid (∀ j, j < 64 → wr.cell? ⟨gb, ob + j, none⟩ = some (.int .u8 (bv8 (X.getD j 0)))) := by
        intro j hj; rw [hcb j (by omega)]; exact b8s_at X j (by rw [HXl.out]; omega)
      have Hck : Hid (∀ j, j < 64 → wr.cell? ⟨gk, ok + j, none⟩ = some (.int .u32 (wv (kTab.getD j 0)))) := by
        intro j hj; rw [hck64 j (by omega)]; exact w32s_at kTab j (by rw [show kTab.length = 64 from rfl]; exact hj)
      have Hch := Lib.hid hch8
      clear hcb hck64 hch8
      have hM0 : decide (0 < M) = true := decide_eq_true (by omega)
      go_wp2_with fail
      refine loop4 _ _ _ _ _ _ _ _ _ _ _ _ _ _ _ _ _ _ _ _ _ _ _ _ _ _ _ _ _ _ _ _ _ _ _ _ _ _ _ _ _ _ _ _ _ _ _ _ _ _ _ _ _ _ _ _ _ _ _ _ _ _ _ _ _ _ _ _ _ _ _ _ _ _ _ _ _ _ _ _ _ _ _ _ _ _ _ _ _ _ _ _ _ _ _ _ _ _ _ _ _ _ _ _ _ _ _ _ _ _ _ _ _ _ _ _ _ _ _ _ _ _ _ _ _ _ _ _ _ _ _ _ _ _ _ _ _ _ _ _ _ _ _ _ _ _ _ _ _ _ _ _ _ _ _ _ _ _ _ _ _ _ _ _ _ _ _ _ _ _ _ _ _ _ _ _ _ _ _ _ _ _ _ _ _ _ _ _ _ _ _ _ _ _ _ _ _ _ _ _ _ _ _ _ _ _ _ _ _ _ _ _ _ _ _ _ _ _ _ _ _ _ _ _ _ _ _ _ _ _ _ _ _ _ _ _ _ _ _ _ _ _ _ _ _ _ _ _ _ _ _ _ _ _ _ _ _ _ _ _ _ _ _ _ _ _ _ _ _ _ _ _ _ _ _ _ _ _ _ _ _ _ _ _ _ _ _ _ _ _ _ _ _ _ _ _ _ _ _ _ _ _ _ _ _ _ _ _ _ _ _ gb ob M capi X wr hM64 hM5 hgb Hcb _ _ ?_
      intro _ _ _ _ _ _ _ _ _ _ _ _ _ _ _ _ _ _ _ _ _ _ _ _ _ _ _ _ _ _ _ _ _ _ _ _ _ _ _ _ _ _ _ _ _ _ _ _ _ _ _ _ _ _ _ _ _ _ _ _ _ _ _ _ _ _ _ _ _ _ _ _ _ _ _ _ _ _ _ _ _ _ _ _ _ _ _ _ _ _ _ _ _ _ _ _ _ _ _ _ _ _ Aw cw w5 ow hcw hB6
      have Ow := Lib.hid ow; clear ow
      have hs6 := hB6.size
      have hs5' : w.heap.size ≤ wr.heap.size := hs5
      obtain ⟨gw, rfl, hgw, hgw'⟩ := own_some Ow.out (by omega)
      have Hcw : Hid (∀ j, j < 64 → w5.cell? ⟨gw, j, none⟩ = some (.int .u32 (wv ((sched X 64).getD j 0)))) := by
        intro j hj; rw [Ow.out.cellAt j (by omega)]; exact w32s_at _ j (by rw [sched_length]; exact hj)
      have Hck2 : Hid (∀ j, j < 64 → w5.cell? ⟨gk, ok + j, none⟩ = some (.int .u32 (wv (kTab.getD j 0)))) := fun j hj => (hB6.cell hgk).trans (Hck.out j hj)
      have h0 : w5.cell? ⟨gh, oh, none⟩ = some (.int .u32 (wv st.a)) := (hB6.cell hgh).trans (Hch.out 0 (by omega))
      have h1 : w5.cell? ⟨gh, oh + 1, none⟩ = some (.int .u32 (wv st.b)) := (hB6.cell hgh).trans (Hch.out 1 (by omega))
      have h2 : w5.cell? ⟨gh, oh + 2, none⟩ = some (.int .u32 (wv st.c)) := (hB6.cell hgh).trans (Hch.out 2 (by omega))
      have h3 : w5.cell? ⟨gh, oh + 3, none⟩ = some (.int .u32 (wv st.d)) := (hB6.cell hgh).trans (Hch.out 3 (by omega))
      have h4 : w5.cell? ⟨gh, oh + 4, none⟩ = some (.int .u32 (wv st.e)) := (hB6.cell hgh).trans (Hch.out 4 (by omega))
      have h5 : w5.cell? ⟨gh, oh + 5, none⟩ = some (.int .u32 (wv st.f)) := (hB6.cell hgh).trans (Hch.out 5 (by omega))
      have h6 : w5.cell? ⟨gh, oh + 6, none⟩ = some (.int .u32 (wv st.g)) := (hB6.cell hgh).trans (Hch.out 6 (by omega))
      have h7 : w5.cell? ⟨gh, oh + 7, none⟩ = some (.int .u32 (wv st.h)) := (hB6.cell hgh).trans (Hch.out 7 (by omega))
      go_wp2_with fail
      go_quiet (fail)
      go_wp2_with fail
      refine loop5 _ _ _ _ _ _ _ _ _ _ _ _ _ _ _ _ _ _ _ _ _ _ _ _ _ _ _ _ _ _ _ _ _ _ _ _ _ _ _ _ _ _ _ _ _ _ _ _ _ _ _ _ _ _ _ _ _ _ _ _ _ _ _ _ _ _ _ _ _ _ _ _ _ _ _ _ _ _ _ _ _ _ _ _ _ _ _ _ _ _ _ _ _ _ _ _ _ _ _ _ _ _ _ _ _ _ _ _ _ _ _ _ _ _ _ _ _ _ _ _ _ _ _ _ _ _ _ _ _ _ _ _ _ _ _ _ _ _ _ _ _ _ _ _ _ _ _ _ _ _ _ _ _ _ _ _ _ _ _ _ _ _ _ _ _ _ _ _ _ _ _ _ _ _ _ _ _ _ _ _ _ _ _ _ _ _ _ _ _ _ _ _ _ _ _ _ _ _ _ _ _ _ _ _ _ _ _ _ _ _ _ _ _ _ _ _ _ _ _ _ _ _ _ _ _ _ _ _ _ _ _ _ _ _ _ _ _ _ _ _ _ _ _ _ _ _ _ _ _ _ _ _ _ _ _ _ _ _ _ _ _ _ _ _ _ _ _ _ _ _ _ _ _ _ _ _ _ _ _ _ _ _ _ _ _ _ _ _ _ _ _ _ _ _ _ _ _ _ _ _ _ _ _ gk ok c6 gw cw st X (w5.drewN nq) Hck2 Hcw _ _ ?_
      intro _ _ _ _ _ _ _ _ _ _ _ _ _ _ _ _ _ _ _ _ _ _ _ _ _ _ _ _ _ _ _ _ _ _ _ _ _ _ _ _ _ _ _ _ _ _ _ _ _ _ _ _ _ _ _ _ _ _ _ _ _ _ _ _ _ _ _ s q hs
      rw [← hs] at Hst
      clear hs Hcw Hck2 Ow
      have k0 : ((w5.drewN nq).drewN q).cell? ⟨gh, oh, none⟩ = some (.int .u32 (wv st.a)) := h0
      have k1 : ((w5.drewN nq).drewN q).cell? ⟨gh, oh + 1, none⟩ = some (.int .u32 (wv st.b)) := h1
      have k2 : ((w5.drewN nq).drewN q).cell? ⟨gh, oh + 2, none⟩ = some (.int .u32 (wv st.c)) := h2
      have k3 : ((w5.drewN nq).drewN q).cell? ⟨gh, oh + 3, none⟩ = some (.int .u32 (wv st.d)) := h3
      have k4 : ((w5.drewN nq).drewN q).cell? ⟨gh, oh + 4, none⟩ = some (.int .u32 (wv st.e)) := h4
      have k5 : ((w5.drewN nq).drewN q).cell? ⟨gh, oh + 5, none⟩ = some (.int .u32 (wv st.f)) := h5
      have k6 : ((w5.drewN nq).drewN q).cell? ⟨gh, oh + 6, none⟩ = some (.int .u32 (wv st.g)) := h6
      have k7 : ((w5.drewN nq).drewN q).cell? ⟨gh, oh + 7, none⟩ = some (.int .u32 (wv st.h)) := h7
      have hB8 : Below wr.heap.size wr ((w5.drewN nq).drewN q) := below_drewN (below_drewN hB6 nq) q
      clear h0 h1 h2 h3 h4 h5 h6 h7 hB6 hgw' hs6
      generalize (w5.drewN nq).drewN q = Z at *
      have hs8 := hB8.size
      go_wp2_with fail
      go_still_tail 40, (by kernel_rfl)
      change wpList _ _ _ _ _ Z.drew
      by_cases hc64 : capi = 64
      · subst hc64
        obtain rfl : M = 64 := by omega
        go_wp2_with fail
        go_roundw
        case rel =>
          have hr := rd_row8 Z (st.add s)
          have hBn : Below wr.heap.size wr (Z.alloc (.cells (st.add s).vals.toArray 43)).drew := (hB8.alloc hs8 _).drew
          refine ⟨i + 1, 0, 0, _, _, 8, by omega, by have := HM.out; omega, rfl, by omega, ?_, rfl, by omega, ?_, ?_, hB5.trans (hBn.mono hs5)⟩
          · rw [Hdd.out]; exact ⟨by rw [b8s_length, List.length_drop, HXl.out], fun h => absurd h (by omega)⟩
          · rw [Hst.out]; exact hr
          · exact (Rk.out.keep hBn).more hBn.size
        case measure => simp
      · go_wp2_with fail
        go_roundw
        case rel =>
          have hr := rd_row8 Z (st.add s)
          have hBn : Below wr.heap.size wr (Z.alloc (.cells (st.add s).vals.toArray 43)).drew := (hB8.alloc hs8 _).drew
          refine ⟨i + 1, M - 64, capi - 64, _, _, 8, by omega, by have := HM.out; omega, rfl, by omega, ?_, rfl, by omega, ?_, ?_, hB5.trans (hBn.mono hs5)⟩
          · rw [Hdd.out]
            have hcut := Rb.out.cut (k := 64) hM64 hMc
            rw [if_neg (by omega)] at hcut
            have hc2 := (hcut.keep hBn).more hBn.size
            simp only [Option.map_some, add_eq, Nat.mul_one] at hc2
            rw [b8s_drop]
            exact hc2
          · rw [Hst.out]; exact hr
          · exact (Rk.out.keep hBn).more hBn.size
        case measure => simp; omega
    · obtain rfl : i = blocksOf l := by omega
      have hM0 : M = 0 := by have := HP.out; omega
      subst hM0
      clear Rb
      go_wp2_with fail
      first
        | exact HK.out _ _ _ _ _ _ _ _ _ _ _ _ _ _ _ _ _ _ _ _ _ _ _ _ _ _ _ _ _ _ _ _ _ _ _ _ _ _ _ _ _ _ _ _ _ _ _ _ _ _ _ _ _ _ _ _ _ _ _ _ _ _ _ _ _ _ _ _ _ _ _ _ _ _ _ _ _ _ _ _ _ _ _ _ _ _ _ _ _ _ _ _ _ _ _ _ _ _ _ _ _ _ _ _ _ _ _ _ _ _ _ _ _ _ _ _ _ _ _ _ _ _ _ _ _ _ _ _ _ _ _ _ _ _ _ _ _ _ _ _ _ _ _ _ _ _ _ _ _ _ _ _ _ _ _ _ _ _ _ _ _ _ _ _ _ _ _ _ _ _ _ _ _ _ _ _ _ _ _ _ _ _ _ _ _ _ _ _ _ _ _ _ _ _ _ _ _ _ _ _ _ _ _ _ _ _ _ _ _ _ _ _ _ _ _ _ _ _ _ _ _ _ _ _ _ _ _ _ _ _ _ _ _ _ _ _ _ _ _ _ _ _ _ _ _ _ _ _ _ _ Ai Ah capi ch wr Rh.out hch hB5
        | trace_state
end Go.Proofs.Ytknoonkjkdjkbaa
