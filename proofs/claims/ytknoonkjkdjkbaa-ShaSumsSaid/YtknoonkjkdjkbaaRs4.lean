/-
  The reference: the schedule of one block.
-/
import Derived.Test.YtknoonkjkdjkbaaRsp
namespace Go.Proofs.Ytknoonkjkdjkbaa
open Go.RowKit
attribute [local go_sem] wv_mod wv_unot wv_addm wv_mul24 wv_mul16 wv_mul8 wb_conv wv_add wv_bits_and wv_bits_or wv_bits_xor wv_shr wv_shl wv_shr3 wv_shr10 wv_not wv_not'

set_option maxHeartbeats 16000000 in
set_option maxRecDepth 1000000 in
theorem loop4 (u1 u2 u3 u4 u5 u6 u9 u10 u11 u12 u13 u14 u15 u16 u17 u18 u19 u20 u21 u22 u23 u24 u25 u26 u27 u28 u29 u30 u31 u32 u33 u34 u35 u36 u37 u38 u39 u40 u41 u42 u43 u44 u45 u46 u47 u48 u49 u50 u51 u52 u53 u54 u55 u56 u57 u58 u59 u60 u61 u62 u63 u64 u65 u66 u67 u68 u69 u70 u71 u72 u73 u74 u75 u76 u77 u78 u79 u80 u81 u82 u83 u84 u85 u86 u87 u88 u89 u90 u91 u92 u93 u94 u95 u96 u97 u98 u99 u100 u101 u102 u103 u104 u105 u106 u107 u108 u109 u110 u111 u112 u113 u114 u115 u116 u117 u118 u119 u120 u121 u122 u123 u124 u125 u126 u127 u128 u129 u130 u131 u132 u133 u134 u135 u136 u137 u138 u139 u140 u141 u142 u143 u144 u145 u146 u147 u148 u149 u150 u151 u152 u153 u154 u155 u156 u157 u158 u159 u160 u161 u162 u163 u164 u165 u166 u167 u168 u169 u170 u171 u172 u173 u174 u175 u176 u177 u178 u179 u180 u181 u182 u183 u184 u185 u186 u187 u188 u189 u190 u191 u192 u193 u194 u195 u196 u197 u198 u199 u200 u201 u202 u203 u204 u205 u206 u207 u208 u209 u210 u211 u212 u213 u214 u215 u216 u217 u218 u219 u220 u221 u222 u223 u224 u225 u226 u227 u228 u229 u230 u231 u232 u233 u234 u235 u236 u237 u238 u239 u240 u241 u242 u243 u244 u245 u246 u247 u248 u249 u250 u251 u252 u253 u254 u255 u256 u257 u258 u259 u260 u261 u262 u263 u264 u265 u266 u267 u268 u269 u270 u271 u272 u273 u274 u275 u276 u277 u278 u279 u280 u281 u282 u283 u284 u285 u286 u287 u288 u289 u290 u291 u292 u293 u294 u295 u296 u297 u298 u299 u300 u301 u302 u303 u304 u305 u306 u307 u308 u309 u310 u311 u312 u313 : Value) (gb ob M capi : Nat) (X : List UInt8) (w5 : World) (hM64 : 64 ≤ M) (hM5 : M ≤ 5200) (hgb : gb < w5.heap.size)
    (Hcb : Hid (∀ j, j < 64 → w5.cell? ⟨gb, ob + j, none⟩ = some (.int .u8 (bv8 (X.getD j 0)))))
    (K : Act → World → Prop) (Q9 : Exit → Act → World → Prop)
    (hK : ∀ (v9 v10 v62 v63 v64 v65 v66 v67 v68 v69 v70 v71 v72 v73 v74 v75 v76 v77 v78 v79 v80 v81 v82 v83 v84 v85 v86 v87 v88 v89 v90 v91 v92 v93 v94 v95 v96 v97 v98 v99 v100 v101 v102 v103 v104 v105 v106 v107 v108 v109 v110 v111 v112 v113 v114 v115 v116 v117 v118 v119 v120 v121 v122 v123 v124 v125 v126 v127 v128 v129 v130 v131 v132 v133 v134 v135 v136 v137 v138 v139 v140 v141 v142 v143 v144 v145 v146 v147 v148 v149 v150 v151 v152 v153 v154 v155 v156 v157 v158 v159 v160 v161 : Value) (Aw : Option Addr) (cw : Nat) (w' : World), w'.ownsRow w5.heap.size 43 1 (.slice Aw 64 cw) 64 (w32s (sched X 64)) → 64 ≤ cw → Below w5.heap.size w5 w' → K { tmps := List.toArray (.slice (some ⟨gb, ob, none⟩) M capi :: u1 :: u2 :: u3 :: u4 :: u5 :: u6 :: .slice Aw 64 cw :: .int .i64 64 :: v9 :: v10 :: u11 :: u12 :: u13 :: u14 :: u15 :: u16 :: u17 :: u18 :: u19 :: u20 :: u21 :: u22 :: u23 :: u24 :: u25 :: u26 :: u27 :: u28 :: u29 :: u30 :: u31 :: u32 :: u33 :: u34 :: u35 :: u36 :: u37 :: u38 :: u39 :: u40 :: u41 :: u42 :: u43 :: u44 :: u45 :: u46 :: u47 :: u48 :: u49 :: u50 :: u51 :: u52 :: u53 :: u54 :: u55 :: u56 :: u57 :: u58 :: u59 :: u60 :: u61 :: v62 :: v63 :: v64 :: v65 :: v66 :: v67 :: v68 :: v69 :: v70 :: v71 :: v72 :: v73 :: v74 :: v75 :: v76 :: v77 :: v78 :: v79 :: v80 :: v81 :: v82 :: v83 :: v84 :: v85 :: v86 :: v87 :: v88 :: v89 :: v90 :: v91 :: v92 :: v93 :: v94 :: v95 :: v96 :: v97 :: v98 :: v99 :: v100 :: v101 :: v102 :: v103 :: v104 :: v105 :: v106 :: v107 :: v108 :: v109 :: v110 :: v111 :: v112 :: v113 :: v114 :: v115 :: v116 :: v117 :: v118 :: v119 :: v120 :: v121 :: v122 :: v123 :: v124 :: v125 :: v126 :: v127 :: v128 :: v129 :: v130 :: v131 :: v132 :: v133 :: v134 :: v135 :: v136 :: v137 :: v138 :: v139 :: v140 :: v141 :: v142 :: v143 :: v144 :: v145 :: v146 :: v147 :: v148 :: v149 :: v150 :: v151 :: v152 :: v153 :: v154 :: v155 :: v156 :: v157 :: v158 :: v159 :: v160 :: v161 :: u162 :: u163 :: u164 :: u165 :: u166 :: u167 :: u168 :: u169 :: u170 :: u171 :: u172 :: u173 :: u174 :: u175 :: u176 :: u177 :: u178 :: u179 :: u180 :: u181 :: u182 :: u183 :: u184 :: u185 :: u186 :: u187 :: u188 :: u189 :: u190 :: u191 :: u192 :: u193 :: u194 :: u195 :: u196 :: u197 :: u198 :: u199 :: u200 :: u201 :: u202 :: u203 :: u204 :: u205 :: u206 :: u207 :: u208 :: u209 :: u210 :: u211 :: u212 :: u213 :: u214 :: u215 :: u216 :: u217 :: u218 :: u219 :: u220 :: u221 :: u222 :: u223 :: u224 :: u225 :: u226 :: u227 :: u228 :: u229 :: u230 :: u231 :: u232 :: u233 :: u234 :: u235 :: u236 :: u237 :: u238 :: u239 :: u240 :: u241 :: u242 :: u243 :: u244 :: u245 :: u246 :: u247 :: u248 :: u249 :: u250 :: u251 :: u252 :: u253 :: u254 :: u255 :: u256 :: u257 :: u258 :: u259 :: u260 :: u261 :: u262 :: u263 :: u264 :: u265 :: u266 :: u267 :: u268 :: u269 :: u270 :: u271 :: u272 :: u273 :: u274 :: u275 :: u276 :: u277 :: u278 :: u279 :: u280 :: u281 :: u282 :: u283 :: u284 :: u285 :: u286 :: u287 :: u288 :: u289 :: u290 :: u291 :: u292 :: u293 :: u294 :: u295 :: u296 :: u297 :: u298 :: u299 :: u300 :: u301 :: u302 :: u303 :: u304 :: u305 :: u306 :: u307 :: u308 :: u309 :: u310 :: u311 :: u312 :: u313 :: []), defers := [] } w') :
    Code.wp Try.prog lp4 (Exit.inBlock 6 (Exit.then K Q9)) { tmps := List.toArray (.slice (some ⟨gb, ob, none⟩) M capi :: u1 :: u2 :: u3 :: u4 :: u5 :: u6 :: .slice none 0 0 :: .int .i64 0 :: u9 :: u10 :: u11 :: u12 :: u13 :: u14 :: u15 :: u16 :: u17 :: u18 :: u19 :: u20 :: u21 :: u22 :: u23 :: u24 :: u25 :: u26 :: u27 :: u28 :: u29 :: u30 :: u31 :: u32 :: u33 :: u34 :: u35 :: u36 :: u37 :: u38 :: u39 :: u40 :: u41 :: u42 :: u43 :: u44 :: u45 :: u46 :: u47 :: u48 :: u49 :: u50 :: u51 :: u52 :: u53 :: u54 :: u55 :: u56 :: u57 :: u58 :: u59 :: u60 :: u61 :: u62 :: u63 :: u64 :: u65 :: u66 :: u67 :: u68 :: u69 :: u70 :: u71 :: u72 :: u73 :: u74 :: u75 :: u76 :: u77 :: u78 :: u79 :: u80 :: u81 :: u82 :: u83 :: u84 :: u85 :: u86 :: u87 :: u88 :: u89 :: u90 :: u91 :: u92 :: u93 :: u94 :: u95 :: u96 :: u97 :: u98 :: u99 :: u100 :: u101 :: u102 :: u103 :: u104 :: u105 :: u106 :: u107 :: u108 :: u109 :: u110 :: u111 :: u112 :: u113 :: u114 :: u115 :: u116 :: u117 :: u118 :: u119 :: u120 :: u121 :: u122 :: u123 :: u124 :: u125 :: u126 :: u127 :: u128 :: u129 :: u130 :: u131 :: u132 :: u133 :: u134 :: u135 :: u136 :: u137 :: u138 :: u139 :: u140 :: u141 :: u142 :: u143 :: u144 :: u145 :: u146 :: u147 :: u148 :: u149 :: u150 :: u151 :: u152 :: u153 :: u154 :: u155 :: u156 :: u157 :: u158 :: u159 :: u160 :: u161 :: u162 :: u163 :: u164 :: u165 :: u166 :: u167 :: u168 :: u169 :: u170 :: u171 :: u172 :: u173 :: u174 :: u175 :: u176 :: u177 :: u178 :: u179 :: u180 :: u181 :: u182 :: u183 :: u184 :: u185 :: u186 :: u187 :: u188 :: u189 :: u190 :: u191 :: u192 :: u193 :: u194 :: u195 :: u196 :: u197 :: u198 :: u199 :: u200 :: u201 :: u202 :: u203 :: u204 :: u205 :: u206 :: u207 :: u208 :: u209 :: u210 :: u211 :: u212 :: u213 :: u214 :: u215 :: u216 :: u217 :: u218 :: u219 :: u220 :: u221 :: u222 :: u223 :: u224 :: u225 :: u226 :: u227 :: u228 :: u229 :: u230 :: u231 :: u232 :: u233 :: u234 :: u235 :: u236 :: u237 :: u238 :: u239 :: u240 :: u241 :: u242 :: u243 :: u244 :: u245 :: u246 :: u247 :: u248 :: u249 :: u250 :: u251 :: u252 :: u253 :: u254 :: u255 :: u256 :: u257 :: u258 :: u259 :: u260 :: u261 :: u262 :: u263 :: u264 :: u265 :: u266 :: u267 :: u268 :: u269 :: u270 :: u271 :: u272 :: u273 :: u274 :: u275 :: u276 :: u277 :: u278 :: u279 :: u280 :: u281 :: u282 :: u283 :: u284 :: u285 :: u286 :: u287 :: u288 :: u289 :: u290 :: u291 :: u292 :: u293 :: u294 :: u295 :: u296 :: u297 :: u298 :: u299 :: u300 :: u301 :: u302 :: u303 :: u304 :: u305 :: u306 :: u307 :: u308 :: u309 :: u310 :: u311 :: u312 :: u313 :: []), defers := [] } w5 := by
  have HK := Lib.hid hK; clear hK
  conv => arg 2; whnf
  go_loopw [7, 8] (fun v k wr => ∃ kk cw : Nat, ∃ Aw, kk ≤ 64 ∧ k = .int .i64 kk ∧ v = .slice Aw kk cw ∧ kk ≤ cw ∧ wr.ownsRow w5.heap.size 43 1 v kk (w32s (sched X kk)) ∧ Below w5.heap.size w5 wr)
    (fun _ k _ => 64 - (intOf k).toNat)
  case atStart => exact ⟨0, 0, none, by omega, rfl, rfl, by omega, World.ownsRow_nil _ _ _ _, Below.refl _ _⟩
  case round =>
    obtain ⟨k, cw, Aw, hk, rfl, rfl, hcw, ow, hB6⟩ := hrel
    have Ow := Lib.hid ow; clear ow
    have hs6 := hB6.size
    by_cases hk64 : k < 64
    · by_cases hk16 : k < 16
      · skip
        have c0 : wr.cell? ⟨gb, ob + 4 * k, none⟩ = some (.int .u8 (bv8 (X.getD (4 * k) 0))) := by rw [hB6.cell hgb]; exact Hcb.out (4 * k) (by omega)
        have c1 : wr.cell? ⟨gb, ob + (4 * k + 1), none⟩ = some (.int .u8 (bv8 (X.getD (4 * k + 1) 0))) := by rw [hB6.cell hgb]; exact Hcb.out (4 * k + 1) (by omega)
        have c2 : wr.cell? ⟨gb, ob + (4 * k + 2), none⟩ = some (.int .u8 (bv8 (X.getD (4 * k + 2) 0))) := by rw [hB6.cell hgb]; exact Hcb.out (4 * k + 2) (by omega)
        have c3 : wr.cell? ⟨gb, ob + (4 * k + 3), none⟩ = some (.int .u8 (bv8 (X.getD (4 * k + 3) 0))) := by rw [hB6.cell hgb]; exact Hcb.out (4 * k + 3) (by omega)
        have hn : sched X (k + 1) = sched X k ++ [word4 (X.getD (4 * k) 0) (X.getD (4 * k + 1) 0) (X.getD (4 * k + 2) 0) (X.getD (4 * k + 3) 0)] := by
          rw [sched_next, nextW, if_pos hk16]
        rw [← word4_add] at hn
        generalize X.getD (4 * k) 0 = x0 at *
        generalize X.getD (4 * k + 1) 0 = x1 at *
        generalize X.getD (4 * k + 2) 0 = x2 at *
        generalize X.getD (4 * k + 3) 0 = x3 at *
        have Hsn := Lib.hid hn; clear hn
        have m0 : IntKind.i64.wrap (4 * (k : Int)) = ((4 * k : Nat) : Int) := by rw [IntKind.wrap_i64]; omega
        have m1 : IntKind.i64.wrap (((4 * k : Nat) : Int) + 1) = ((4 * k + 1 : Nat) : Int) := by rw [IntKind.wrap_i64]; omega
        have m2 : IntKind.i64.wrap (((4 * k : Nat) : Int) + 2) = ((4 * k + 2 : Nat) : Int) := by rw [IntKind.wrap_i64]; omega
        have m3 : IntKind.i64.wrap (((4 * k : Nat) : Int) + 3) = ((4 * k + 3 : Nat) : Int) := by rw [IntKind.wrap_i64]; omega
        have l0 : ((4 * k : Nat) : Int) < M := by omega
        have l1 : ((4 * k + 1 : Nat) : Int) < M := by omega
        have l2 : ((4 * k + 2 : Nat) : Int) < M := by omega
        have l3 : ((4 * k + 3 : Nat) : Int) < M := by omega
        generalize 4 * k + 1 = i1 at *
        generalize 4 * k + 2 = i2 at *
        generalize 4 * k + 3 = i3 at *
        generalize 4 * k = i0 at *
        go_wp2_with fail
        go_region_held3 (fun w' => w'.cell? ⟨gb, ob + i0, none⟩ = some (.int .u8 (bv8 x0)) ∧ w'.cell? ⟨gb, ob + i1, none⟩ = some (.int .u8 (bv8 x1)) ∧ w'.cell? ⟨gb, ob + i2, none⟩ = some (.int .u8 (bv8 x2)) ∧ w'.cell? ⟨gb, ob + i3, none⟩ = some (.int .u8 (bv8 x3)))
          (first | go_keep | exact ⟨(hb8.cell hgb).trans c0, (hb8.cell hgb).trans c1, (hb8.cell hgb).trans c2, (hb8.cell hgb).trans c3⟩)
          ((refine step_push (by rfl) _ _ 52 (by rfl) w5.heap.size 43 (.int .u32 0) 1 4 Try.underlying52 Try.info43 rfl (by decide) _ _ _ (by rfl) (own_drew (Ow.out.alloc _)) wr.heap.size [_] 1 (by decide) (by rfl) (heap_alloc_new wr _) (by rfl) (by rfl) (by omega) (by omega) (by simp; omega) ?_; intro g7 cap7 w7 hown7 hg7 hb7 _; have hb8 := below_undo hs6 hb7))
        have e := w32s_snoc (sched X k) (wb x0 <<< 24 + wb x1 <<< 16 + wb x2 <<< 8 + wb x3)
        rw [← Hsn.out] at e
        rw [e] at hown7
        clear e
        have hc7 := own_cap hown7
        have Hown7 := Lib.hid hown7; clear hown7
        go_wp2_with fail
        go_roundw
        case rel => exact ⟨k + 1, cap7, _, by omega, by go_num, rfl, hc7, Hown7.out, hB6.trans hb8⟩
        case measure => simp [intOf]; omega
      · skip
        obtain ⟨gw, rfl, hgw, hgw'⟩ := own_some Ow.out (by omega)
        have ca : ∀ j, j < k → wr.cell? ⟨gw, j, none⟩ = some (.int .u32 (wv ((sched X k).getD j 0))) := by
          intro j hj; rw [Ow.out.cellAt j (by omega)]; exact w32s_at _ j (by rw [sched_length]; exact hj)
        have g15 := ca (k - 15) (by omega)
        have g2' := ca (k - 2) (by omega)
        have g16 := ca (k - 16) (by omega)
        have g7' := ca (k - 7) (by omega)
        clear ca
        have hn : sched X (k + 1) = sched X k ++ [(sched X k).getD (k - 16) 0 + ssig0 ((sched X k).getD (k - 15) 0) + (sched X k).getD (k - 7) 0 + ssig1 ((sched X k).getD (k - 2) 0)] := by
          rw [sched_next, nextW, if_neg hk16]
        have n16 : k - 16 < k := by omega
        have n7 : k - 7 < k := by omega
        generalize (sched X k).getD (k - 15) 0 = a15 at *
        generalize (sched X k).getD (k - 2) 0 = a2 at *
        generalize (sched X k).getD (k - 16) 0 = a16 at *
        generalize (sched X k).getD (k - 7) 0 = a7 at *
        have m15 : IntKind.i64.wrap ((k : Int) - 15) = ((k - 15 : Nat) : Int) := by rw [IntKind.wrap_i64]; omega
        have m2 : IntKind.i64.wrap ((k : Int) - 2) = ((k - 2 : Nat) : Int) := by rw [IntKind.wrap_i64]; omega
        have m16 : IntKind.i64.wrap ((k : Int) - 16) = ((k - 16 : Nat) : Int) := by rw [IntKind.wrap_i64]; omega
        have m7 : IntKind.i64.wrap ((k : Int) - 7) = ((k - 7 : Nat) : Int) := by rw [IntKind.wrap_i64]; omega
        have l15 : ((k - 15 : Nat) : Int) < k := by omega
        have l2 : ((k - 2 : Nat) : Int) < k := by omega
        have l16 : ((k - 16 : Nat) : Int) < k := by omega
        have l7 : ((k - 7 : Nat) : Int) < k := by omega
        generalize k - 15 = j15 at *
        generalize k - 2 = j2 at *
        generalize k - 16 = j16 at *
        generalize k - 7 = j7 at *
        have Hsn := Lib.hid hn; clear hn
        go_wp2_with fail
        go_quiet ((go_at_call 21; first | exact quiet_left (turn_any _ _ _ (by decide) (by decide)) | exact quiet_add_left (turn_any _ _ _ (by decide) (by decide))))
        obtain ⟨n1, rfl⟩ : ∃ n1 : Nat, n1 = nq := ⟨_, rfl⟩
        go_wp2_with fail
        go_quiet ((go_at_call 21; first | exact quiet_left (turn_any _ _ _ (by decide) (by decide)) | exact quiet_add_left (turn_any _ _ _ (by decide) (by decide))))
        go_wp2_with fail
        have g16w : ((wr.drewN n1).drewN nq).cell? ⟨gw, j16, none⟩ = some (.int .u32 (wv a16)) := g16
        have g7w : ((wr.drewN n1).drewN nq).cell? ⟨gw, j7, none⟩ = some (.int .u32 (wv a7)) := g7'
        have Ow : Hid (((wr.drewN n1).drewN nq).ownsRow w5.heap.size 43 1 (.slice (some ⟨gw, 0, none⟩) k cw) k (w32s (sched X k))) := Ow
        have hB6 : Below w5.heap.size w5 ((wr.drewN n1).drewN nq) := below_drewN (below_drewN hB6 _) _
        have hs6 := hB6.size
        have hgw' : gw < ((wr.drewN n1).drewN nq).heap.size := hgw'
        clear g15 g2' g16 g7'
        generalize (wr.drewN n1).drewN nq = W at *
        go_region_held3 (fun w' => w'.cell? ⟨gw, j16, none⟩ = some (.int .u32 (wv a16)) ∧ w'.cell? ⟨gw, j7, none⟩ = some (.int .u32 (wv a7)))
          (first | go_keep | exact ⟨(hk8 j16 n16).trans g16w, (hk8 j7 n7).trans g7w⟩)
          ((refine step_push (by rfl) _ _ 52 (by rfl) w5.heap.size 43 (.int .u32 0) 1 4 Try.underlying52 Try.info43 rfl (by decide) _ _ _ (by rfl) (own_drew (Ow.out.alloc _)) W.heap.size [_] 1 (by decide) (by rfl) (heap_alloc_new W _) (by rfl) (by rfl) (by omega) (by omega) (by simp; omega) ?_; intro g7 cap7 w7 hown7 hg7 hb7 hk7; have hb8 := below_undo hs6 hb7; have hk8 : ∀ j, j < k → w7.cell? ⟨gw, j, none⟩ = W.cell? ⟨gw, j, none⟩ := fun j hj => (hk7 gw j rfl (by omega)).trans (World.cell?_alloc_lt W _ ⟨gw, j, none⟩ hgw')))
        have e := w32s_snoc (sched X k) (a16 + ssig0 a15 + a7 + ssig1 a2)
        rw [← Hsn.out] at e
        have hown7 : w7.ownsRow w5.heap.size 43 1 (.slice (some ⟨g7, 0, none⟩) (k + 1) cap7) (k + 1) (w32s (sched X (k + 1))) := by rw [← e]; exact hown7
        clear e
        have hc7 := own_cap hown7
        have Hown7 := Lib.hid hown7; clear hown7
        go_wp2_with fail
        go_roundw
        case rel => exact ⟨k + 1, cap7, _, by omega, by go_num, rfl, hc7, Hown7.out, hB6.trans hb8⟩
        case measure => simp [intOf]; omega
    · obtain rfl : k = 64 := by omega
      have e64 : ((64 : Nat) : Int) = 64 := rfl
      rw [e64]
      clear e64
      go_wp2_with fail
      first
        | exact HK.out _ _ _ _ _ _ _ _ _ _ _ _ _ _ _ _ _ _ _ _ _ _ _ _ _ _ _ _ _ _ _ _ _ _ _ _ _ _ _ _ _ _ _ _ _ _ _ _ _ _ _ _ _ _ _ _ _ _ _ _ _ _ _ _ _ _ _ _ _ _ _ _ _ _ _ _ _ _ _ _ _ _ _ _ _ _ _ _ _ _ _ _ _ _ _ _ _ _ _ _ _ _ Aw cw wr Ow.out hcw hB6
        | trace_state
end Go.Proofs.Ytknoonkjkdjkbaa
