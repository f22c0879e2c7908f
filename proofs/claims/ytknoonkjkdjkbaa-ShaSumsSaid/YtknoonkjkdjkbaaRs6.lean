/-
  The reference: the bytes that come out; the sum, whole.
-/
import Derived.Test.YtknoonkjkdjkbaaRs3
namespace Go.Proofs.Ytknoonkjkdjkbaa
open Go.RowKit
attribute [local go_sem] wv_mod wv_unot wv_addm wv_mul24 wv_mul16 wv_mul8 wb_conv wv_add wv_bits_and wv_bits_or wv_bits_xor wv_shr wv_shl wv_shr3 wv_shr10 wv_not wv_not'

set_option maxHeartbeats 16000000 in
set_option maxRecDepth 1000000 in
theorem loop6 (u0 u1 u2 u3 u4 u5 u6 u7 u8 u9 u10 u11 u12 u13 u14 u15 u16 u17 u18 u19 u20 u21 u23 u24 u25 u26 u27 u28 u29 u30 u31 u32 u33 u34 u35 u36 u37 u38 u39 u40 u41 u42 u43 u44 u45 u46 u47 u48 u49 u50 u51 u52 u53 u54 u55 u56 u57 u58 u59 u60 u61 u62 u63 u64 u65 u66 u67 u68 u69 u70 u71 u72 u73 u74 u75 u76 u77 u78 u79 u80 u81 u82 u83 u84 u85 u86 u87 u88 u89 u90 u91 u92 u93 u94 u95 u96 u97 u98 u99 u100 u101 u102 u103 u104 u105 u106 u107 u108 u109 u110 u111 u112 u113 u114 u115 u116 u117 u118 u119 u120 u121 u122 u123 u124 u125 u126 u127 u128 u129 u130 u131 u132 u133 u134 u135 u136 u137 u138 u139 u140 u141 u142 u143 u144 u145 u146 u147 u148 u149 u150 u151 u152 u153 u154 u155 u156 u157 u158 u159 u160 u161 u162 u163 u164 u165 u166 u167 u168 u169 u170 u171 u172 u173 u174 u175 u176 u177 u178 u179 u180 u181 u182 u183 u184 u185 u186 u187 u188 u189 u190 u191 u192 u193 u194 u195 u196 u197 u198 u199 u200 u201 u202 u203 u204 u205 u206 u207 u208 u209 u210 u211 u212 u213 u214 u215 u216 u217 u218 u219 u220 u221 u222 u223 u224 u225 u226 u227 u228 u229 u230 u231 u232 u233 u234 u235 u236 u237 u238 u239 u240 u241 u242 u243 u244 u245 u246 u247 u248 u249 u250 u251 u252 u253 u254 u255 u256 u257 u258 u259 u260 u261 u262 u263 u264 u265 u266 u267 u268 u269 u270 u271 u272 u273 u274 u275 u276 u277 u278 u279 u280 u281 u282 u283 u284 u285 u286 u287 u288 u289 u290 u291 u295 u296 u297 u298 u299 u300 u301 u302 u303 u304 u305 u306 u307 u308 u309 u310 u311 u312 u313 : Value) (gh oh ch : Nat) (st : S8) (w5 : World) (hgh : gh < w5.heap.size)
    (Hch : Hid (∀ j, j < 8 → w5.cell? ⟨gh, oh + j, none⟩ = some (.int .u32 (wv (st.list.getD j 0)))))
    (K : Act → World → Prop) (Q9 : Exit → Act → World → Prop)
    (hK : ∀ (v24 v295 v296 v297 v298 v299 v300 v301 v302 v303 v304 v305 v306 v307 v308 v309 v310 v311 v312 : Value) (Av : Option Addr) (cv : Nat) (w' : World), w'.ownsRow w5.heap.size 5 1 (.slice Av 32 cv) 32 (b8s (bytesOf st.list)) → Below w5.heap.size w5 w' → K { tmps := List.toArray (u0 :: u1 :: u2 :: u3 :: u4 :: u5 :: u6 :: u7 :: u8 :: u9 :: u10 :: u11 :: u12 :: u13 :: u14 :: u15 :: u16 :: u17 :: u18 :: u19 :: u20 :: u21 :: .slice Av 32 cv :: u23 :: v24 :: u25 :: u26 :: u27 :: u28 :: u29 :: u30 :: u31 :: u32 :: u33 :: u34 :: u35 :: u36 :: u37 :: u38 :: u39 :: u40 :: u41 :: u42 :: u43 :: u44 :: u45 :: u46 :: u47 :: u48 :: u49 :: u50 :: u51 :: u52 :: u53 :: u54 :: u55 :: u56 :: u57 :: u58 :: u59 :: u60 :: u61 :: u62 :: u63 :: u64 :: u65 :: u66 :: u67 :: u68 :: u69 :: u70 :: u71 :: u72 :: u73 :: u74 :: u75 :: u76 :: u77 :: u78 :: u79 :: u80 :: u81 :: u82 :: u83 :: u84 :: u85 :: u86 :: u87 :: u88 :: u89 :: u90 :: u91 :: u92 :: u93 :: u94 :: u95 :: u96 :: u97 :: u98 :: u99 :: u100 :: u101 :: u102 :: u103 :: u104 :: u105 :: u106 :: u107 :: u108 :: u109 :: u110 :: u111 :: u112 :: u113 :: u114 :: u115 :: u116 :: u117 :: u118 :: u119 :: u120 :: u121 :: u122 :: u123 :: u124 :: u125 :: u126 :: u127 :: u128 :: u129 :: u130 :: u131 :: u132 :: u133 :: u134 :: u135 :: u136 :: u137 :: u138 :: u139 :: u140 :: u141 :: u142 :: u143 :: u144 :: u145 :: u146 :: u147 :: u148 :: u149 :: u150 :: u151 :: u152 :: u153 :: u154 :: u155 :: u156 :: u157 :: u158 :: u159 :: u160 :: u161 :: u162 :: u163 :: u164 :: u165 :: u166 :: u167 :: u168 :: u169 :: u170 :: u171 :: u172 :: u173 :: u174 :: u175 :: u176 :: u177 :: u178 :: u179 :: u180 :: u181 :: u182 :: u183 :: u184 :: u185 :: u186 :: u187 :: u188 :: u189 :: u190 :: u191 :: u192 :: u193 :: u194 :: u195 :: u196 :: u197 :: u198 :: u199 :: u200 :: u201 :: u202 :: u203 :: u204 :: u205 :: u206 :: u207 :: u208 :: u209 :: u210 :: u211 :: u212 :: u213 :: u214 :: u215 :: u216 :: u217 :: u218 :: u219 :: u220 :: u221 :: u222 :: u223 :: u224 :: u225 :: u226 :: u227 :: u228 :: u229 :: u230 :: u231 :: u232 :: u233 :: u234 :: u235 :: u236 :: u237 :: u238 :: u239 :: u240 :: u241 :: u242 :: u243 :: u244 :: u245 :: u246 :: u247 :: u248 :: u249 :: u250 :: u251 :: u252 :: u253 :: u254 :: u255 :: u256 :: u257 :: u258 :: u259 :: u260 :: u261 :: u262 :: u263 :: u264 :: u265 :: u266 :: u267 :: u268 :: u269 :: u270 :: u271 :: u272 :: u273 :: u274 :: u275 :: u276 :: u277 :: u278 :: u279 :: u280 :: u281 :: u282 :: u283 :: u284 :: u285 :: u286 :: u287 :: u288 :: u289 :: u290 :: u291 :: .slice (some ⟨gh, oh, none⟩) 8 ch :: .int .i64 8 :: .int .i64 8 :: v295 :: v296 :: v297 :: v298 :: v299 :: v300 :: v301 :: v302 :: v303 :: v304 :: v305 :: v306 :: v307 :: v308 :: v309 :: v310 :: v311 :: v312 :: u313 :: []), defers := [] } w') :
    Code.wp Try.prog lp6 (Exit.inBlock 10 (Exit.then K Q9)) { tmps := List.toArray (u0 :: u1 :: u2 :: u3 :: u4 :: u5 :: u6 :: u7 :: u8 :: u9 :: u10 :: u11 :: u12 :: u13 :: u14 :: u15 :: u16 :: u17 :: u18 :: u19 :: u20 :: u21 :: .slice none 0 0 :: u23 :: u24 :: u25 :: u26 :: u27 :: u28 :: u29 :: u30 :: u31 :: u32 :: u33 :: u34 :: u35 :: u36 :: u37 :: u38 :: u39 :: u40 :: u41 :: u42 :: u43 :: u44 :: u45 :: u46 :: u47 :: u48 :: u49 :: u50 :: u51 :: u52 :: u53 :: u54 :: u55 :: u56 :: u57 :: u58 :: u59 :: u60 :: u61 :: u62 :: u63 :: u64 :: u65 :: u66 :: u67 :: u68 :: u69 :: u70 :: u71 :: u72 :: u73 :: u74 :: u75 :: u76 :: u77 :: u78 :: u79 :: u80 :: u81 :: u82 :: u83 :: u84 :: u85 :: u86 :: u87 :: u88 :: u89 :: u90 :: u91 :: u92 :: u93 :: u94 :: u95 :: u96 :: u97 :: u98 :: u99 :: u100 :: u101 :: u102 :: u103 :: u104 :: u105 :: u106 :: u107 :: u108 :: u109 :: u110 :: u111 :: u112 :: u113 :: u114 :: u115 :: u116 :: u117 :: u118 :: u119 :: u120 :: u121 :: u122 :: u123 :: u124 :: u125 :: u126 :: u127 :: u128 :: u129 :: u130 :: u131 :: u132 :: u133 :: u134 :: u135 :: u136 :: u137 :: u138 :: u139 :: u140 :: u141 :: u142 :: u143 :: u144 :: u145 :: u146 :: u147 :: u148 :: u149 :: u150 :: u151 :: u152 :: u153 :: u154 :: u155 :: u156 :: u157 :: u158 :: u159 :: u160 :: u161 :: u162 :: u163 :: u164 :: u165 :: u166 :: u167 :: u168 :: u169 :: u170 :: u171 :: u172 :: u173 :: u174 :: u175 :: u176 :: u177 :: u178 :: u179 :: u180 :: u181 :: u182 :: u183 :: u184 :: u185 :: u186 :: u187 :: u188 :: u189 :: u190 :: u191 :: u192 :: u193 :: u194 :: u195 :: u196 :: u197 :: u198 :: u199 :: u200 :: u201 :: u202 :: u203 :: u204 :: u205 :: u206 :: u207 :: u208 :: u209 :: u210 :: u211 :: u212 :: u213 :: u214 :: u215 :: u216 :: u217 :: u218 :: u219 :: u220 :: u221 :: u222 :: u223 :: u224 :: u225 :: u226 :: u227 :: u228 :: u229 :: u230 :: u231 :: u232 :: u233 :: u234 :: u235 :: u236 :: u237 :: u238 :: u239 :: u240 :: u241 :: u242 :: u243 :: u244 :: u245 :: u246 :: u247 :: u248 :: u249 :: u250 :: u251 :: u252 :: u253 :: u254 :: u255 :: u256 :: u257 :: u258 :: u259 :: u260 :: u261 :: u262 :: u263 :: u264 :: u265 :: u266 :: u267 :: u268 :: u269 :: u270 :: u271 :: u272 :: u273 :: u274 :: u275 :: u276 :: u277 :: u278 :: u279 :: u280 :: u281 :: u282 :: u283 :: u284 :: u285 :: u286 :: u287 :: u288 :: u289 :: u290 :: u291 :: .slice (some ⟨gh, oh, none⟩) 8 ch :: .int .i64 8 :: .int .i64 0 :: u295 :: u296 :: u297 :: u298 :: u299 :: u300 :: u301 :: u302 :: u303 :: u304 :: u305 :: u306 :: u307 :: u308 :: u309 :: u310 :: u311 :: u312 :: u313 :: []), defers := [] } w5 := by
  have HK := Lib.hid hK; clear hK
  conv => arg 2; whnf
  go_loopw [22, 294] (fun v k wr => ∃ kk n cv : Nat, ∃ Av, kk ≤ 8 ∧ k = .int .i64 kk ∧ n = 4 * kk ∧ v = .slice Av n cv ∧ n ≤ cv ∧ wr.ownsRow w5.heap.size 5 1 v n (b8s (bytesOf (st.list.take kk))) ∧ Below w5.heap.size w5 wr)
    (fun _ k _ => 8 - (intOf k).toNat)
  case atStart => exact ⟨0, 0, 0, none, by omega, rfl, rfl, rfl, by omega, World.ownsRow_nil _ _ _ _, Below.refl _ _⟩
  case round =>
    obtain ⟨k, nn, cv, Av, hk, rfl, hn, rfl, hcv, ov, hB6⟩ := hrel
    have Ov := Lib.hid ov; clear ov
    have hs6 := hB6.size
    have hnn : nn ≤ 32 := by omega
    have Hnn := Lib.hid hn; clear hn
    by_cases hk8 : k < 8
    · skip
      have c0 : wr.cell? ⟨gh, oh + k, none⟩ = some (.int .u32 (wv (st.list.getD k 0))) := (hB6.cell hgh).trans (Hch.out k hk8)
      have Hbs := Lib.hid (bytes_snoc st k hk8)
      generalize st.list.getD k 0 = x at *
      go_wp2_with (at_builtin; refine wpList_push rfl (.tmp 298) (.tmp 310) 22 rfl w5.heap.size 5 (.int .u8 0) 1 1 Try.underlying22 Try.info5 rfl (by decide) _ _ _ rfl Ov.out _ 4 (by decide) rfl rfl rfl (by omega) (by omega) hs6 ?_; intro g7 cap7 w7 hown7 hg7 hb7; have Hown7 := Lib.hid hown7; clear hown7)
      rw [word_cells x, ← b8s_append, ← Hbs.out] at Hown7
      have hc7 := own_cap Hown7.out
      go_roundw
      case rel => exact ⟨k + 1, nn + 4, cap7, _, by omega, by go_num, by have := Hnn.out; omega, rfl, hc7, Hown7.out, hB6.trans hb7⟩
      case measure => simp [intOf]; omega
    · obtain rfl : k = 8 := by omega
      obtain rfl : nn = 32 := by have := Hnn.out; omega
      have e8 : ((8 : Nat) : Int) = 8 := rfl
      rw [e8]
      clear e8
      go_wp2_with fail
      first
        | exact HK.out _ _ _ _ _ _ _ _ _ _ _ _ _ _ _ _ _ _ _ Av cv wr Ov.out hB6
        | trace_state

set_option maxHeartbeats 16000000 in
set_option maxRecDepth 1000000 in
theorem rsum_any (l : List UInt8) (A : Option Addr) (cap B : Nat) (w : World) (hr : Rd w B 1 A l.length (b8s l)) (hB0 : B ≤ w.heap.size) (hcap : l.length ≤ cap) (hl : l.length ≤ 5000) :
    Calls Try.prog 9 #[.slice A l.length cap] w fun e w' => ∃ v, e = .returned v ∧ Owns8 w.heap.size w' v (digest l) ∧ Below w.heap.size w w' := by
  obtain ⟨n, hn⟩ : ∃ n, n = l.length := ⟨_, rfl⟩
  rw [← hn] at hr hcap hl ⊢
  have Hr := Lib.hid hr; have Hn := Lib.hid hn; clear hr hn
  go_enter Try.func9, Try.ntmps9
  go_wp2_with (first
    | (at_builtin; refine wpList_appendRd rfl (.tmp 28) (.tmp 29) 22 rfl w.heap.size 5 (.int .u8 0) 1 1 Try.underlying22 Try.info5 rfl (by decide) _ 0 [] rfl (World.ownsRow_made w #[] 0 (Nat.le_refl _) (by decide) rfl) B A n cap (b8s l) rfl (Hr.out.keep (((Below.refl _ w).alloc (Nat.le_refl _) _).mono hB0)) (b8s_one l) (by omega) (by omega) (by simp) ?_; intro A1 cap1 w1 hown1 hb1 _; simp only [Nat.zero_add, List.nil_append] at hown1; have Hown1 := Lib.hid hown1; clear hown1)
    | (at_builtin; refine wpList_push rfl (.tmp 30) (.tmp 31) 22 rfl w.heap.size 5 (.int .u8 0) 1 1 Try.underlying22 Try.info5 rfl (by decide) _ _ _ rfl Hown1.out _ 1 (by decide) rfl rfl rfl (by omega) (by omega) (by have := hb1.size; simp at this; omega) ?_; intro g2 cap2 w2 hown2 hg2 hb2; have Hown2 := Lib.hid hown2; clear hown2))
  have hbw : Below w.heap.size w w2 := (((Below.refl _ w).alloc (Nat.le_refl _) _).trans hb1).trans hb2
  have Hown2 : Hid (w2.ownsRow w.heap.size 5 1 (.slice (some ⟨g2, 0, none⟩) (n + 1) cap2) (n + 1) (b8s (l ++ [128] ++ List.replicate 0 0))) := by
    have := Hown2.out
    simp only [Hid, List.replicate_zero, List.append_nil, b8s_append]; exact this
  clear hb1 hb2 Hown1 Hr hg2
  go_loopw [0] (fun v wr => ∃ z L cap : Nat, ∃ A, z ≤ padZ n ∧ L = n + 1 + z ∧ v = .slice A L cap ∧ L ≤ cap ∧ wr.ownsRow w.heap.size 5 1 v L (b8s (l ++ [128] ++ List.replicate z 0)) ∧ Below w.heap.size w wr)
    (fun v _ => match v with | .slice _ L _ => n + 1 + padZ n - L | _ => 0)
  case atStart =>
    obtain ⟨A', c', e, hc, _⟩ := own_form Hown2.out
    exact ⟨0, n + 1, cap2, _, by omega, rfl, rfl, by injection e; omega, Hown2.out, hbw⟩
  case round =>
    obtain ⟨z, L, cap', A', hz, hL, rfl, hc, hown, hB⟩ := hrel
    have hpz : padZ n < 64 := Nat.mod_lt _ (by decide)
    have hbs := hB.size
    have Hown := Lib.hid hown; clear hown Hown2 hbw
    have hL5 : L ≤ 5100 := by omega
    by_cases hzp : z < padZ n
    · have hm : ((L : Int) % 64 != 56) = true := by
        rw [bne_iff_ne]; unfold padZ at hzp; omega
      have HL := Lib.hid hL; clear hL
      go_wp2_with (at_builtin; refine wpList_push rfl (.tmp 37) (.tmp 38) 22 rfl w.heap.size 5 (.int .u8 0) 1 1 Try.underlying22 Try.info5 rfl (by decide) _ _ _ rfl Hown.out _ 1 (by decide) rfl rfl rfl (by omega) (by omega) (by omega) ?_; intro g3 cap3 w3 hown3 hg3 hb3; have Hown3 := Lib.hid hown3; clear hown3)
      have e := pad_snoc (l ++ [128]) z
      rw [e] at Hown3
      obtain ⟨_, _, e3, hc3, _⟩ := own_form Hown3.out
      go_roundw
      case rel => exact ⟨z + 1, L + 1, cap3, _, by omega, by have := HL.out; omega, rfl, by injection e3; omega, Hown3.out, hB.trans hb3⟩
      case measure => have := HL.out; simp; omega
    · obtain rfl : z = padZ n := by omega
      have hm : ((L : Int) % 64 != 56) = false := by
        rw [bne_eq_false_iff_eq]; unfold padZ at hL; omega
      have HL := Lib.hid hL; clear hL
      go_wp2_with fail
      obtain ⟨w1', rfl⟩ : ∃ w1' : World, w1' = wr := ⟨_, rfl⟩
      go_loopw [0, 4] (fun v i wr => ∃ k L' cap : Nat, ∃ A, k ≤ 8 ∧ L' = L + k ∧ i = .int .i64 (7 - (k : Int)) ∧ v = .slice A L' cap ∧ L' ≤ cap ∧ wr.ownsRow w.heap.size 5 1 v L' (b8s (l ++ [128] ++ List.replicate (padZ n) 0 ++ (be8 (8 * n)).take k)) ∧ Below w.heap.size w wr)
        (fun _ i _ => (intOf i + 1).toNat)
      case atStart => exact ⟨0, L, cap', A', by omega, by omega, rfl, rfl, hc, by simpa using Hown.out, hB⟩
      case round =>
        obtain ⟨k, L', cap2', A2, hk, hL', rfl, rfl, hc2, hown2, hB2⟩ := hrel
        have hbs2 := hB2.size
        have Hown2 := Lib.hid hown2; clear hown2 Hown hB hbs
        have hL5' : L' ≤ 5200 := by omega
        have HL' := Lib.hid hL'; clear hL'
        by_cases hk8 : k < 8
        · go_wp2_with (at_builtin; refine wpList_push rfl (.tmp 44) (.tmp 51) 22 rfl w.heap.size 5 (.int .u8 0) 1 1 Try.underlying22 Try.info5 rfl (by decide) _ _ _ rfl Hown2.out _ 1 (by decide) rfl rfl rfl (by omega) (by omega) (by omega) ?_; intro g3 cap3 w3 hown3 hg3 hb3; have Hown3 := Lib.hid hown3; clear hown3)
          have e := be8_snoc (l ++ [128] ++ List.replicate (padZ n) 0) (8 * n) k _ hk8 (shr_byte n k (by omega))
          rw [e] at Hown3
          obtain ⟨_, _, e3, hc3, _⟩ := own_form Hown3.out
          clear e
          go_roundw
          case rel => exact ⟨k + 1, L' + 1, cap3, _, by omega, by have := HL'.out; omega, by go_num, rfl, by injection e3; omega, Hown3.out, hB2.trans hb3⟩
          case measure => simp [intOf]; omega
        · obtain rfl : k = 8 := by omega
          have hP : L' = 64 * blocksOf l := by
            have h1 := HL'.out; have h2 := HL.out; have h3 := Hn.out
            unfold padZ at h2; unfold blocksOf; omega
          have hbl : blocksOf l ≤ 80 := by unfold blocksOf; have := Hn.out; omega
          have Hown4 : Hid (wr.ownsRow w.heap.size 5 1 (.slice A2 L' cap2') L' (b8s (padded l))) := by
            have := Hown2.out
            rw [List.take_of_length_le (by rw [be8_length]; omega), Hn.out] at this
            exact this
          clear Hown2 HL HL' hzp hm
          have HP := Lib.hid hP; clear hP
          go_wp2_with fail
          refine (tables_any _).mono ?_
          rintro e w4 ⟨hv, kv, rfl, oh, ok, b4⟩
          obtain ⟨A5, c5, rfl, hc5, _⟩ := own_form oh
          obtain ⟨A6, c6, rfl, hc6, _⟩ := own_form ok
          have Oh := Lib.hid oh; have Ok := Lib.hid ok; clear oh ok
          have Hown5 : Hid (w4.ownsRow w.heap.size 5 1 (.slice A2 L' cap2') L' (b8s (padded l))) := own_keep Hown4.out b4
          have hB4 : Below w.heap.size w w4 := hB2.trans (b4.mono hbs2)
          have hs4 := hB4.size
          clear Hown4 hB2
          go_wp2_with fail
          refine loop3 _ _ _ _ _ _ _ _ _ _ _ _ _ _ _ _ _ _ _ _ _ _ _ _ _ _ _ _ _ _ _ _ _ _ _ _ _ _ _ _ _ _ _ _ _ _ _ _ _ _ _ _ _ _ _ _ _ _ _ _ _ _ _ _ _ _ _ _ _ _ _ _ _ _ _ _ _ _ _ _ _ _ _ _ _ _ _ _ _ _ _ _ _ _ _ _ _ _ _ _ _ _ _ _ _ _ _ _ _ _ _ _ _ _ _ _ _ _ _ _ _ _ _ _ _ _ _ _ _ _ _ _ _ _ _ _ _ _ _ _ _ _ _ _ _ _ _ _ _ _ _ _ _ _ _ _ _ _ _ _ _ _ _ _ _ _ _ _ _ _ _ _ _ _ _ _ _ _ _ _ _ _ _ _ _ _ _ _ _ _ _ _ _ _ _ _ _ _ _ _ _ _ _ _ _ _ _ _ _ _ _ _ _ _ _ _ _ _ _ _ _ _ _ _ _ _ _ _ _ _ _ _ _ _ _ _ _ _ _ _ _ _ _ _ _ _ _ _ _ _ _ _ _ _ _ _ _ _ _ _ _ _ _ _ _ _ _ _ _ _ _ _ _ _ _ _ _ _ _ _ _ _ _ _ _ _ _ _ _ _ _ _ _ _ _ _ _ _ _ _ _ _ _ _ _ _ _ _ _ _ _ A2 A5 A6 L' cap2' c5 c6 l w w4 (by have := Hn.out; omega) HP hc2 hc5 (Lib.hid (Rd.of_own Hown5.out)) (Lib.hid (Rd.of_own Oh.out)) (Lib.hid (Rd.of_own Ok.out)) hB4 _ _ ?_
          intro _ _ _ _ _ _ _ _ _ _ _ _ _ _ _ _ _ _ _ _ _ _ _ _ _ _ _ _ _ _ _ _ _ _ _ _ _ _ _ _ _ _ _ _ _ _ _ _ _ _ _ _ _ _ _ _ _ _ _ _ _ _ _ _ _ _ _ _ _ _ _ _ _ _ _ _ _ _ _ _ _ _ _ _ _ _ _ _ _ _ _ _ _ _ _ _ _ _ _ _ _ _ _ _ _ _ _ _ _ _ _ _ _ _ _ _ _ _ _ _ _ _ _ _ _ _ _ _ _ _ _ _ _ _ _ _ _ _ _ _ _ _ _ _ _ _ _ _ _ _ _ _ _ _ _ _ _ _ _ _ _ _ _ _ _ _ _ _ _ _ _ _ _ _ _ _ _ _ _ _ _ _ _ _ _ _ _ _ _ _ _ _ _ _ _ _ _ _ _ _ _ _ _ _ _ _ _ _ _ _ _ _ _ _ _ _ _ _ _ _ _ _ _ _ _ _ _ _ _ _ _ _ _ _ _ _ _ _ _ _ _ _ _ _ _ _ _ _ _ _ Ai Ah capi ch w5 rh hch hB5
          have hs5 := hB5.size
          obtain ⟨gh, oh', rfl, hgh, hch8⟩ := rh.at_ (by omega)
          have Hd : Hid (digest l = bytesOf (hashTo (padded l) (blocksOf l)).list) := rfl
          generalize hashTo (padded l) (blocksOf l) = st at *
          have Hch : Hid (∀ j, j < 8 → w5.cell? ⟨gh, oh' + j, none⟩ = some (.int .u32 (wv (st.list.getD j 0)))) := by
            intro j hj; rw [hch8 j (by omega)]; exact w32s_at _ j (by show j < 8; exact hj)
          clear hch8 rh Oh Ok Hown5 hB4
          go_wp2_with fail
          refine loop6 _ _ _ _ _ _ _ _ _ _ _ _ _ _ _ _ _ _ _ _ _ _ _ _ _ _ _ _ _ _ _ _ _ _ _ _ _ _ _ _ _ _ _ _ _ _ _ _ _ _ _ _ _ _ _ _ _ _ _ _ _ _ _ _ _ _ _ _ _ _ _ _ _ _ _ _ _ _ _ _ _ _ _ _ _ _ _ _ _ _ _ _ _ _ _ _ _ _ _ _ _ _ _ _ _ _ _ _ _ _ _ _ _ _ _ _ _ _ _ _ _ _ _ _ _ _ _ _ _ _ _ _ _ _ _ _ _ _ _ _ _ _ _ _ _ _ _ _ _ _ _ _ _ _ _ _ _ _ _ _ _ _ _ _ _ _ _ _ _ _ _ _ _ _ _ _ _ _ _ _ _ _ _ _ _ _ _ _ _ _ _ _ _ _ _ _ _ _ _ _ _ _ _ _ _ _ _ _ _ _ _ _ _ _ _ _ _ _ _ _ _ _ _ _ _ _ _ _ _ _ _ _ _ _ _ _ _ _ _ _ _ _ _ _ _ _ _ _ _ _ _ _ _ _ _ _ _ _ _ _ _ _ _ _ _ _ _ _ _ _ _ _ _ _ _ _ _ _ _ _ _ _ _ _ _ _ _ _ _ _ _ _ _ _ _ _ _ _ _ _ _ _ _ _ _ _ _ _ _ _ gh oh' ch st w5 hgh Hch _ _ ?_
          intro _ _ _ _ _ _ _ _ _ _ _ _ _ _ _ _ _ _ _ Av cv w6 ov hB6
          have Ho : Hid (w6.ownsRow w.heap.size 5 1 (.slice Av 32 cv) 32 (b8s (digest l))) := by
            rw [Hd.out]; exact own_base ov hs5
          have hl4 : 32 = (digest l).length := by have := Ho.out.1; rw [b8s_length] at this; omega
          have Hl4 := Lib.hid hl4; clear hl4 ov
          go_wp2_with fail
          go_ret
          refine ⟨_, rfl, ?_, hB5.trans (hB6.mono hs5)⟩
          rw [Owns8, ← Hl4.out]
          exact Ho.out
end Go.Proofs.Ytknoonkjkdjkbaa
