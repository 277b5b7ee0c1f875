/- Merged: SkApart, SkF. -/
import Derived.Test.YtffocoflmbhknaaMgXAll
import Derived.Test.YtffocoflmbhknaaSkKit
/- Contract of own.go's apart at rows of integers: what else the call may see stays; and at no rows. -/
namespace Go.Proofs.Ytffocoflmbhknaa
open Go.ChangeShapes Go.WideShapes Go.ChangeAt Go.RowKit
set_option maxRecDepth 20000
set_option maxHeartbeats 2000000 in
theorem aparti2_c (B b o m c : Nat) (x : Int) (L KK : List Ent) (w : World) (hl : L.length = m) (hm0 : 0 < m) (hm : m ≤ 100) (hmc : m ≤ c) (hc : c ≤ 9223372036854775807) (hB : B ≤ w.heap.size)
    (hH : Hd b o w L) (hO : ∀ x ∈ L, x.v.ownBlock ≠ some b) (hS : Sep B w (L ++ KK)) (hI : ∀ x ∈ L, IsI x) :
    Calls Try.prog 26 #[.int .i64 x, .slice (some ⟨b, o, none⟩) m c] w fun e w' => e = .returned (.bool true) ∧ Below B w w' ∧ Sep B w' KK := by
  have HL := hidp hl
  have HO := hidp hO
  have HI := hidp hI
  have HH := hidp hH
  have HS := hidp hS
  clear hl hO hI hH hS
  go_enter Try.func26, Try.ntmps26
  go_wp2_with fail
  go_loopw [12, 5] (fun i s5 wr => ∃ (k : Nat) (M : List Ent), k ≤ m ∧ i = .int .i64 k ∧ Hid (M.length = k) ∧ wr.ownsRow w.heap.size 53 1 s5 k (M.map (·.v)) ∧ Hid (Sep B wr ((L ++ KK) ++ M)) ∧ Hid (Off s5 ((L ++ KK) ++ M)) ∧ Hid (Twin L M) ∧ Hid (∀ x ∈ M, IsI x) ∧ Hid (Hd b o wr L) ∧ Below w.heap.size w wr) (fun i _ _ => m - (intOf i).toNat)
  case atStart => exact ⟨0, [], by omega, rfl, rfl, World.ownsRow_nil _ _ _ _, by rw [List.append_nil]; exact HS, Off.nil _, Twin.nil _, fun x hx => by simp at hx, HH, Below.refl _ _⟩
  case round =>
    obtain ⟨k, M, hk, rfl, ML, hW, S1, O1, T1, I1, H1, hBl⟩ := hrel
    by_cases hlt : k < m
    · have hlL := HL.out
      obtain ⟨y, hy⟩ : ∃ y, L[k]? = some y := ⟨L[k]'(by omega), List.getElem?_eq_getElem (by omega)⟩
      have hyL : y ∈ L := List.mem_of_getElem? hy
      obtain ⟨a', n', c', xs', rfl, hI', hn'⟩ := S1.out.ints (x := y) (List.mem_append_left _ (List.mem_append_left _ hyL)) (HI.out y hyL)
      have c1 : wr.cell? ⟨b, o + k, none⟩ = some (.slice a' n' c') := H1.out.at_ k _ hy
      have HY := hidp hy
      have CC := hidp (clonei_c a' n' c' xs' wr hI' (by omega))
      clear hy hyL hlL
      have hlb := hidp hI'.bd
      clear hI'
      go_wp2_with fail
      refine CC.out.mono ?_
      rintro e w2 ⟨v2, rfl, hv2, hb2⟩
      have hd2 := owns_below' hW hb2
      have hbs := bstep hBl hb2
      have hgs := hbs.size
      have S2 := hidp (S1.out.snoc (x := ei v2 n' xs') (Nat.le_trans hB hBl.size) hb2 hv2)
      have O2 := hidp (Off.snoc (x := ei v2 n' xs') O1.out ((apart_new hW hv2 (Nat.le_refl _)).symm))
      have H2 := hidp (H1.out.below hb2)
      obtain ⟨a2, c2, rfl, _, _⟩ := owns_form hv2
      clear CC c1
      go_wp2_with (at_builtin; refine wpList_append_new rfl (.tmp 16) (.tmp 19) 25 rfl w.heap.size 53 _ 1 24 info_slc rfl (by decide) Try.underlying25 u5 k _ rfl hd2 rfl (one_slc _ _ _) rfl rfl (by omega) (by decide) hgs ?_; intro v3 w3 nv g3 d3)
      have hkn : v3.ownBlock = u5.ownBlock ∨ ∃ k, v3.ownBlock = some k ∧ w2.heap.size ≤ k := d3
      have S3 := hidp (S2.out.off O2.out g3)
      have O3 := hidp (O2.out.grown S2.out d3)
      have H3 := hidp (H2.out.grown g3 (fun e => by
        have h1 := (hd2.lt b e).1
        have h2 := HH.out.lt
        omega))
      have bl3 := append_step hd2 hbs (Nat.le_refl _) g3
      go_roundw
      case measure => simp [intOf]; omega
      case rel =>
        have hml := ML.out
        refine ⟨k + 1, M ++ [ei (.slice a2 n' c2) n' xs'], by omega, by go_num, hidp (by simp [hml]), by rw [vmap_snoc]; exact nv, hidp (by rw [← List.append_assoc]; exact S3.out), hidp (by rw [← List.append_assoc]; exact O3.out), hidp (T1.out.snoc (x := ei (.slice a' n' c') n' xs') (by rw [hml]; exact HY.out) rfl rfl rfl rfl), hidp (fun z hz => ?_), H3, bl3⟩
        rcases List.mem_append.1 hz with hz | hz
        · exact I1.out z hz
        · simp at hz; subst hz; exact ⟨n', xs', rfl, hn', hlb.out⟩
    · obtain rfl : m = k := by omega
      have hml := ML.out
      obtain ⟨gw, cw, rfl, hgw, hgl, hcw, hcm⟩ := owns_addr hW hm0
      clear ML
      go_wp2_with fail
      have hBl' : Below B w wr := hBl.mono hB
      go_loopw [24] (fun i wx => ∃ (k : Nat), k ≤ m ∧ i = .int .i64 k ∧ wx.ownsRow w.heap.size 53 1 (.slice (some ⟨gw, 0, none⟩) m cw) m (M.map (·.v)) ∧ Hid (Sep B wx (L.drop k ++ (KK ++ M))) ∧ Hid (Hd b o wx L) ∧ Below B w wx) (fun i _ => m - (intOf i).toNat)
      case atStart => exact ⟨0, by omega, rfl, hW, hidp (by have := S1.out; rw [List.append_assoc] at this; exact this), H1, hBl'⟩
      case round =>
        obtain ⟨k, hk, rfl, hW, S1, H1, hBl⟩ := hrel
        clear hBl'
        by_cases hlt : k < m
        · have hlL := HL.out
          obtain ⟨y, hy⟩ : ∃ y, L[k]? = some y := ⟨L[k]'(by omega), List.getElem?_eq_getElem (by omega)⟩
          have hyL : y ∈ L := List.mem_of_getElem? hy
          obtain ⟨z, hz⟩ : ∃ z, M[k]? = some z := ⟨M[k]'(by omega), List.getElem?_eq_getElem (by omega)⟩
          have hzM : z ∈ M := List.mem_of_getElem? hz
          have hyD : y ∈ L.drop k ++ (KK ++ M) := by rw [drop_cons hy]; simp
          have hne := HO.out y hyL
          have hYI := HI.out y hyL
          have hZI := I1.out z hzM
          obtain ⟨y', hy', t1, t2, t3, t4⟩ := T1.out k z hz
          have hyy : y' = y := by rw [hy] at hy'; exact (Option.some.inj hy').symm
          subst hyy
          have S1' := S1.out
          rw [drop_cons hy] at S1'
          have hyo := S1'.own y' (by simp)
          have hoff := O1.out y' (List.mem_append_left _ (List.mem_append_left _ hyL))
          have hlo := S1'.own y' (by simp)
          obtain ⟨ay, ny, cy, xy, rfl, hIy, hny⟩ := S1.out.ints hyD hYI
          obtain ⟨az, nz, cz, xz, rfl, hIz, hnz⟩ := S1.out.ints (x := z) (List.mem_append_right _ (List.mem_append_right _ hzM)) hZI
          obtain rfl : ny = nz := t3
          have hxx : xy = xz := by
            have hinj : ∀ u v : Int, Value.int .i64 u = Value.int .i64 v → u = v := fun u v e => by cases e; rfl
            have h4 : xy.map (Value.int .i64) = xz.map (Value.int .i64) := t4
            exact List.map_inj_right hinj |>.1 h4
          subst hxx
          have c1 : wr.cell? ⟨b, o + k, none⟩ = some (.slice ay ny cy) := H1.out.at_ k _ hy
          have c2 : wr.cell? ⟨gw, k, none⟩ = some (.slice az ny cz) := by
            rw [hW.cellAt k (by omega), List.getElem?_map, hz]; rfl
          have EQ := hidp (equali_t ay az ny ny cy cz xy wr hIy hIz)
          have S2 := hidp S1'
          have HNE := hidp hne
          have HOF := hidp hoff
          clear hy hyL hz hzM hyD t1 t2 t4 hIy hIz S1' hYI hZI hyo hlo hne hoff hlL
          go_wp2_with fail
          refine EQ.out.mono ?_
          rintro e w2 ⟨rfl, hb2⟩
          have S3 := hidp (S2.out.below hb2)
          have hW2 := owns_below' hW hb2
          have H2 := hidp (H1.out.below hb2)
          have hBl2 : Below B w w2 := hBl.trans (hb2.mono (Nat.le_trans hB hBl.size))
          have SP := hidp (spoili_c (.slice ay ny cy) ny B (xy.map (Value.int .i64)) x w2 (S3.out.own (ei (.slice ay ny cy) ny xy) (by simp)))
          have hyB := (S3.out.own (ei (.slice ay ny cy) ny xy) (by simp)).lt
          clear EQ S2 hb2 c1 c2
          go_wp2_with fail
          refine SP.out.mono ?_
          rintro e w3 ⟨rfl, hg⟩
          have S4 := hidp (Sep.head (L := L.drop (k + 1) ++ (KK ++ M)) S3.out hg)
          have hW3 := hW2.kept hg HOF.out.symm
          have H3 := hidp (H2.out.grown hg HNE.out)
          have hBl3 : Below B w w3 := hBl2.grown hg (Nat.le_trans hB hBl2.size) (fun q hq => (hyB q hq).1)
          clear SP S3 hyB
          go_wp2_with fail
          go_roundw
          case measure => simp [intOf]; omega
          case rel => exact ⟨k + 1, by omega, by go_num, hW3, S4, H3, hBl3⟩
        · obtain rfl : k = m := by omega
          go_wp2
          go_ret
          exact ⟨rfl, hBl, (S1.out.sub (List.sublist_append_right _ _)).sub (List.sublist_append_left _ _)⟩
set_option maxHeartbeats 2000000 in
theorem apart0_c (a : Option Addr) (c : Nat) (x : Int) (w : World) :
    Calls Try.prog 26 #[.int .i64 x, .slice a 0 c] w fun e w' => e = .returned (.bool true) ∧ Below w.heap.size w w' := by
  go_enter Try.func26, Try.ntmps26
  go_wp2_with fail
  go_loopw [12, 5] (fun i s5 wr => i = .int .i64 0 ∧ Below w.heap.size w wr) (fun i _ _ => 0)
  case atStart => exact ⟨rfl, Below.refl _ _⟩
  case round =>
    obtain ⟨rfl, hBl⟩ := hrel
    go_wp2_with fail
    go_loopw [24] (fun i wx => i = .int .i64 0 ∧ Below w.heap.size w wx) (fun i _ => 0)
    case atStart => exact ⟨rfl, hBl⟩
    case round =>
      obtain ⟨rfl, hBl⟩ := hrel
      go_wp2
      go_ret
      exact ⟨rfl, hBl⟩
theorem apart_any (B H m : Nat) (v : Value) (x : Int) (L KK : List Ent) (w : World) (hv : w.ownsRow H 53 1 v m (L.map (·.v))) (hH : ∀ y ∈ L, ∀ k, y.v.ownBlock = some k → k < H) (hl : L.length = m) (hm : m ≤ 100) (hB : B ≤ w.heap.size) (hS : Sep B w (L ++ KK)) (hI : ∀ y ∈ L, IsI y) :
    Calls Try.prog 26 #[.int .i64 x, v] w fun e w' => e = .returned (.bool true) ∧ Below B w w' ∧ Sep B w' KK := by
  rcases Nat.eq_zero_or_pos m with h0 | h0
  · obtain ⟨a, c, rfl, _, _⟩ := owns_form hv
    rw [h0]
    refine (apart0_c a c x w).mono ?_
    rintro e w' ⟨rfl, hb⟩
    exact ⟨rfl, hb.mono hB, (hS.sub (List.sublist_append_right _ _)).below hb⟩
  · obtain ⟨g, c, rfl, hg, hlt, hc, hcm⟩ := owns_addr hv h0
    refine aparti2_c B g 0 m c x L KK w hl h0 hm hc hcm hB ⟨hlt, fun i y hy => ?_⟩ (fun y hy e => ?_) hS hI
    · have hi := (List.getElem?_eq_some_iff.1 hy).1
      rw [Nat.zero_add, hv.cellAt i (by omega), List.getElem?_map, hy]; rfl
    · have := hH y hy g e
      omega
end Go.Proofs.Ytffocoflmbhknaa

/- The walk of SketchOwn, its last piece: what was answered is as it was, and shares nothing (printed by wip/gen/skF.py). -/
namespace Go.Proofs.Ytffocoflmbhknaa.sketchOwn
open Go.ChangeShapes Go.WideShapes Go.ChangeAt Go.RowKit
open Go.Proofs.Ytffocoflmbhknaa
set_option maxRecDepth 20000
set_option maxHeartbeats 16000000 in
theorem pF {w0 W : World} {B1 : Nat} {X0 X1 X2 X3 X4 X5 T1 T2 : Nat} {s0 y0 s1 y1 kp kq k4 l4 k5 l5 : Int} {vx vy vk vm vx1 vy1 vk1 vm1 : Value} {nx ny nk nm : Nat} {bx by_ : List Bool} {lk lm : List (Int × Int)}
    {ap aq ap1 aq1 : Option Addr} {np nq cp cq cp1 cq1 : Nat} {xp xq : List (List Int)} {Lp Lq : List Ent} {Gp Gq : Nat → Nat}
    {u0 u1 u2 u3 u4 u5 u6 u7 u8 u9 u10 u11 u12 u13 u14 u15 u16 u17 u18 u19 u20 u21 u22 u23 u24 u26 u28 u30 u32 u34 u36 u37 u38 u45 u46 u47 u48 u49 u50 u51 u52 u53 u54 u55 u56 u57 u58 u59 u60 u61 u62 u63 u64 u65 u66 u67 u68 u69 u70 u71 u72 u73 u74 u75 u76 u77 u78 u79 u80 u81 u82 u83 u84 u85 u86 u87 u88 u89 u90 u91 u92 u93 u94 u95 u96 u97 u98 u99 u100 u101 u102 u103 u104 u105 u106 u107 u108 u109 u110 u111 u112 u113 u114 u115 u116 u117 u118 u119 u120 u121 u122 u123 u124 u125 u126 u127 u128 u129 u130 u131 u132 u133 u134 u135 u136 u137 u138 u139 u140 u141 u142 u143 u144 u145 u146 u147 u148 u149 u150 u151 u152 u153 u154 u155 u156 u157 u158 u159 u160 u161 u162 u163 u164 u165 u166 u167 u168 u169 u170 u171 u172 u173 u174 u175 u176 u177 u178 u179 u180 u181 u182 u183 u184 u185 u186 u187 u188 u189 u190 u191 u192 u193 u194 u195 u196 u197 u198 u199 u200 u201 u202 u203 u204 u205 u206 u207 u208 u209 u210 u211 u212 u213 u214 u215 u216 u217 u218 u219 u220 u221 u222 u223 u224 u225 u226 u227 u228 u229 u230 u231 u232 u233 u234 u235 u236 u237 u238 u239 u240 u241 u242 u243 u244 u245 u246 u247 u248 u249 u250 u251 u252 u253 u254 u255 u256 u257 u258 u259 u260 u261 u262 u263 u264 u265 u266 u267 u268 u269 u270 u271 u272 u273 u274 u275 u276 u277 u278 u279 u280 u281 u282 u283 u284 u285 u286 u287 u288 u289 u290 u291 u292 u293 u294 u295 u296 u297 u298 u299 u300 u301 u302 u303 u304 u305 u306 u307 u308 u309 u310 u311 u312 u313 u314 u315 u316 u317 u318 u319 u320 u321 u322 u323 u324 u325 u326 u327 u328 : Value}
    (hw : Below w0.heap.size w0 W) (hB0 : w0.heap.size ≤ B1) (hB1 : B1 ≤ W.heap.size)
    (S : Sep B1 W ([bE vx nx bx, sE 24 X0 [.int .i64 s0, .int .i64 y0, vx], bE vy ny by_, sE 24 X1 [.int .i64 s1, .int .i64 y1, vy]] ++ ((Lp ++ [sE 27 X2 [.int .i64 kp, .slice ap np cp]]) ++ ((Lq ++ [sE 27 X3 [.int .i64 kq, .slice aq nq cq]]) ++ ([ec vk nk lk, sE 30 X4 [.int .i64 k4, .int .i64 l4, vk], ec vm nm lm, sE 30 X5 [.int .i64 k5, .int .i64 l5, vm]] ++ ([bE vx1 nx bx, bE vy1 ny by_] ++ (hdrE (.slice ap1 np cp1) np (rowsV xp Gp np) :: rowsE xp Gp np) ++ (hdrE (.slice aq1 nq cq1) nq (rowsV xq Gq nq) :: rowsE xq Gq nq) ++ [sE 27 T1 [.int .i64 kp, .slice ap1 np cp1], sE 27 T2 [.int .i64 kq, .slice aq1 nq cq1]] ++ [ec vk1 nk lk, ec vm1 nm lm]))))))
    (TP : TabR B1 W ap np cp xp Lp) (TQ : TabR B1 W aq nq cq xq Lq) (hnx : nx ≤ 1000) (hny : ny ≤ 1000) (hnk : nk ≤ 1000) (hnm : nm ≤ 1000) :
    (cd 22).wp Try.prog (bodyPost Try.prog Try.f3 (fun e w' => e = .returned (.bool true) ∧ Below w0.heap.size w0 w'))
      ⟨#[u0, u1, u2, u3, u4, u5, u6, u7, u8, u9, u10, u11, u12, u13, u14, u15, u16, u17, u18, u19, u20, u21, u22, u23, u24, .pointer (some ⟨X0, 0, none⟩), u26, .pointer (some ⟨X1, 0, none⟩), u28, .pointer (some ⟨X2, 0, none⟩), u30, .pointer (some ⟨X3, 0, none⟩), u32, .pointer (some ⟨X4, 0, none⟩), u34, .pointer (some ⟨X5, 0, none⟩), u36, u37, u38, vx1, vy1, .pointer (some ⟨T1, 0, none⟩), .pointer (some ⟨T2, 0, none⟩), vk1, vm1, u45, u46, u47, u48, u49, u50, u51, u52, u53, u54, u55, u56, u57, u58, u59, u60, u61, u62, u63, u64, u65, u66, u67, u68, u69, u70, u71, u72, u73, u74, u75, u76, u77, u78, u79, u80, u81, u82, u83, u84, u85, u86, u87, u88, u89, u90, u91, u92, u93, u94, u95, u96, u97, u98, u99, u100, u101, u102, u103, u104, u105, u106, u107, u108, u109, u110, u111, u112, u113, u114, u115, u116, u117, u118, u119, u120, u121, u122, u123, u124, u125, u126, u127, u128, u129, u130, u131, u132, u133, u134, u135, u136, u137, u138, u139, u140, u141, u142, u143, u144, u145, u146, u147, u148, u149, u150, u151, u152, u153, u154, u155, u156, u157, u158, u159, u160, u161, u162, u163, u164, u165, u166, u167, u168, u169, u170, u171, u172, u173, u174, u175, u176, u177, u178, u179, u180, u181, u182, u183, u184, u185, u186, u187, u188, u189, u190, u191, u192, u193, u194, u195, u196, u197, u198, u199, u200, u201, u202, u203, u204, u205, u206, u207, u208, u209, u210, u211, u212, u213, u214, u215, u216, u217, u218, u219, u220, u221, u222, u223, u224, u225, u226, u227, u228, u229, u230, u231, u232, u233, u234, u235, u236, u237, u238, u239, u240, u241, u242, u243, u244, u245, u246, u247, u248, u249, u250, u251, u252, u253, u254, u255, u256, u257, u258, u259, u260, u261, u262, u263, u264, u265, u266, u267, u268, u269, u270, u271, u272, u273, u274, u275, u276, u277, u278, u279, u280, u281, u282, u283, u284, u285, u286, u287, u288, u289, u290, u291, u292, u293, u294, u295, u296, u297, u298, u299, u300, u301, u302, u303, u304, u305, u306, u307, u308, u309, u310, u311, u312, u313, u314, u315, u316, u317, u318, u319, u320, u321, u322, u323, u324, u325, u326, u327, u328], []⟩ W := by
  obtain ⟨ax, cx, ex, hx⟩ := owns_bools (show W.ownsRow B1 4 1 vx nx (bx.map Value.bool) from S.own (bE vx nx bx) (by simp))
  obtain ⟨ay, cy, ey, hy⟩ := owns_bools (show W.ownsRow B1 4 1 vy ny (by_.map Value.bool) from S.own (bE vy ny by_) (by simp))
  obtain ⟨ax1, cx1, ex1, hx1⟩ := owns_bools (show W.ownsRow B1 4 1 vx1 nx (bx.map Value.bool) from S.own (bE vx1 nx bx) (by simp))
  obtain ⟨ay1, cy1, ey1, hy1⟩ := owns_bools (show W.ownsRow B1 4 1 vy1 ny (by_.map Value.bool) from S.own (bE vy1 ny by_) (by simp))
  obtain ⟨ak, ck, ek, hk⟩ := owns_cnts (show W.ownsRow B1 36 2 vk nk (cntV lk) from S.own (ec vk nk lk) (by simp))
  obtain ⟨am, cm, em, hm⟩ := owns_cnts (show W.ownsRow B1 36 2 vm nm (cntV lm) from S.own (ec vm nm lm) (by simp))
  obtain ⟨ak1, ck1, ek1, hk1⟩ := owns_cnts (show W.ownsRow B1 36 2 vk1 nk (cntV lk) from S.own (ec vk1 nk lk) (by simp))
  obtain ⟨am1, cm1, em1, hm1⟩ := owns_cnts (show W.ownsRow B1 36 2 vm1 nm (cntV lm) from S.own (ec vm1 nm lm) (by simp))
  have SP : Sep B1 W Lp := S.r.l.l
  have SQ : Sep B1 W Lq := S.r.r.l.l
  have SN := S.r.r.r.r
  have SP1 : Sep B1 W (hdrE (.slice ap1 np cp1) np (rowsV xp Gp np) :: rowsE xp Gp np) := SN.l.l.l.r
  have SQ1 : Sep B1 W (hdrE (.slice aq1 nq cq1) nq (rowsV xq Gq nq) :: rowsE xq Gq nq) := SN.l.l.r
  have SA : Sep B1 W ((Lp ++ Lq) ++ [ec vk nk lk, sE 30 X4 [.int .i64 k4, .int .i64 l4, vk], ec vm nm lm, sE 30 X5 [.int .i64 k5, .int .i64 l5, vm]]) := by rw [List.append_assoc]; exact S.r.sub (List.Sublist.append (List.sublist_append_left _ _) (List.Sublist.append (List.sublist_append_left _ _) (List.sublist_append_left _ _)))
  have lp := TP.rows SP
  have lq := TQ.rows SQ
  have vp := TP.vrow SP
  have vq := TQ.vrow SQ
  have bdp : ∀ i, i < np → Bd (gl xp i) := fun i hi => (TP.row i _ (List.getElem?_eq_getElem (by rw [TP.len]; exact hi))).2.2
  have bdq : ∀ i, i < nq → Bd (gl xq i) := fun i hi => (TQ.row i _ (List.getElem?_eq_getElem (by rw [TQ.len]; exact hi))).2.2
  have lp1 := copied_rows SP1 TP.lx bdp
  have lq1 := copied_rows SQ1 TQ.lx bdq
  subst ex ey ex1 ey1 ek em ek1 em1
  have qX0_2 := hidp (fun W' (hB : Below W.heap.size W W') => (show W'.cell? ⟨X0, 2, none⟩ = some (.slice ax nx cx) from box_cell S (t := 24) (P := X0) (cs := [.int .i64 s0, .int .i64 y0, .slice ax nx cx]) (by simp) 2 (by simp) W' hB))
  have qX1_2 := hidp (fun W' (hB : Below W.heap.size W W') => (show W'.cell? ⟨X1, 2, none⟩ = some (.slice ay ny cy) from box_cell S (t := 24) (P := X1) (cs := [.int .i64 s1, .int .i64 y1, .slice ay ny cy]) (by simp) 2 (by simp) W' hB))
  have qX2_0 := hidp (fun W' (hB : Below W.heap.size W W') => (show W'.cell? ⟨X2, 0, none⟩ = some (.int .i64 kp) from box_cell S (t := 27) (P := X2) (cs := [.int .i64 kp, .slice ap np cp]) (by simp) 0 (by simp) W' hB))
  have qX2_1 := hidp (fun W' (hB : Below W.heap.size W W') => (show W'.cell? ⟨X2, 1, none⟩ = some (.slice ap np cp) from box_cell S (t := 27) (P := X2) (cs := [.int .i64 kp, .slice ap np cp]) (by simp) 1 (by simp) W' hB))
  have qX3_0 := hidp (fun W' (hB : Below W.heap.size W W') => (show W'.cell? ⟨X3, 0, none⟩ = some (.int .i64 kq) from box_cell S (t := 27) (P := X3) (cs := [.int .i64 kq, .slice aq nq cq]) (by simp) 0 (by simp) W' hB))
  have qX3_1 := hidp (fun W' (hB : Below W.heap.size W W') => (show W'.cell? ⟨X3, 1, none⟩ = some (.slice aq nq cq) from box_cell S (t := 27) (P := X3) (cs := [.int .i64 kq, .slice aq nq cq]) (by simp) 1 (by simp) W' hB))
  have qX4_2 := hidp (fun W' (hB : Below W.heap.size W W') => (show W'.cell? ⟨X4, 2, none⟩ = some (.slice ak nk ck) from box_cell S (t := 30) (P := X4) (cs := [.int .i64 k4, .int .i64 l4, .slice ak nk ck]) (by simp) 2 (by simp) W' hB))
  have qX5_2 := hidp (fun W' (hB : Below W.heap.size W W') => (show W'.cell? ⟨X5, 2, none⟩ = some (.slice am nm cm) from box_cell S (t := 30) (P := X5) (cs := [.int .i64 k5, .int .i64 l5, .slice am nm cm]) (by simp) 2 (by simp) W' hB))
  have qT1_0 := hidp (fun W' (hB : Below W.heap.size W W') => (show W'.cell? ⟨T1, 0, none⟩ = some (.int .i64 kp) from box_cell S (t := 27) (P := T1) (cs := [.int .i64 kp, .slice ap1 np cp1]) (by simp) 0 (by simp) W' hB))
  have qT1_1 := hidp (fun W' (hB : Below W.heap.size W W') => (show W'.cell? ⟨T1, 1, none⟩ = some (.slice ap1 np cp1) from box_cell S (t := 27) (P := T1) (cs := [.int .i64 kp, .slice ap1 np cp1]) (by simp) 1 (by simp) W' hB))
  have qT2_0 := hidp (fun W' (hB : Below W.heap.size W W') => (show W'.cell? ⟨T2, 0, none⟩ = some (.int .i64 kq) from box_cell S (t := 27) (P := T2) (cs := [.int .i64 kq, .slice aq1 nq cq1]) (by simp) 0 (by simp) W' hB))
  have qT2_1 := hidp (fun W' (hB : Below W.heap.size W W') => (show W'.cell? ⟨T2, 1, none⟩ = some (.slice aq1 nq cq1) from box_cell S (t := 27) (P := T2) (cs := [.int .i64 kq, .slice aq1 nq cq1]) (by simp) 1 (by simp) W' hB))
  have E0 := hidp (fun W' (hB : Below W.heap.size W W') => (equalb_c ax ax1 nx nx cx cx1 bx bx W' (hx.below hB) (hx1.below hB)).mono (fun e w' h => (show e = .returned (.bool true) ∧ Below W'.heap.size W' w' from ⟨by rw [h.1, decide_eq_true (rfl : bx = bx)], h.2⟩)))
  have E1 := hidp (fun W' (hB : Below W.heap.size W W') => (equalb_c ay ay1 ny ny cy cy1 by_ by_ W' (hy.below hB) (hy1.below hB)).mono (fun e w' h => (show e = .returned (.bool true) ∧ Below W'.heap.size W' w' from ⟨by rw [h.1, decide_eq_true (rfl : by_ = by_)], h.2⟩)))
  have E2 := hidp (fun W' (hB : Below W.heap.size W W') => samet_any kp ap ap1 np cp cp1 xp W' (lp.below hB) (lp1.below hB))
  have E3 := hidp (fun W' (hB : Below W.heap.size W W') => samet_any kq aq aq1 nq cq cq1 xq W' (lq.below hB) (lq1.below hB))
  have E4 := hidp (fun W' (hB : Below W.heap.size W W') => eqcc_c ak ak1 nk ck ck1 lk W' (hk.below hB) (hk1.below hB))
  have E5 := hidp (fun W' (hB : Below W.heap.size W W') => eqcc_c am am1 nm cm cm1 lm W' (hm.below hB) (hm1.below hB))
  have E6 := hidp (fun W' (hB : Below W.heap.size W W') => concatl2_v ap aq np nq cp cq _ _ W' (vp.below hB) (vq.below hB) (by have h1 := TP.few; have h2 := TQ.few; omega))
  have TP' := hidp TP
  have TQ' := hidp TQ
  have SA' := hidp SA
  have HW := hidp hw
  clear S SP SQ SN SP1 SQ1 SA lp lq vp vq bdp bdq lp1 lq1 hx hy hx1 hy1 hk hm hk1 hm1 TP TQ hw
  unfold tabV at E2 E3
  conv => arg 2; whnf
  dsimp only
  have qX0_2' := qX0_2.out _ (Below.refl _ _)
  go_wp2_with fail
  refine (E0.out _ (Below.refl _ _)).mono ?_
  rintro e W1 ⟨rfl, hb⟩
  have hb1 := hb
  clear hb qX0_2' E0
  have qX1_2' := qX1_2.out _ hb1
  go_wp2_with fail
  refine (E1.out _ hb1).mono ?_
  rintro e W2 ⟨rfl, hb⟩
  have hb2 := bstep hb1 hb
  clear hb qX1_2' E1
  have qX2_0' := qX2_0.out _ hb2
  have qX2_1' := qX2_1.out _ hb2
  have qT1_0' := qT1_0.out _ hb2
  have qT1_1' := qT1_1.out _ hb2
  go_wp2_with fail
  refine (E2.out _ hb2).mono ?_
  rintro e W3 ⟨rfl, hb⟩
  have hb3 := bstep hb2 hb
  clear hb qX2_0' qX2_1' qT1_0' qT1_1' E2
  have qX3_0' := qX3_0.out _ hb3
  have qX3_1' := qX3_1.out _ hb3
  have qT2_0' := qT2_0.out _ hb3
  have qT2_1' := qT2_1.out _ hb3
  go_wp2_with fail
  refine (E3.out _ hb3).mono ?_
  rintro e W4 ⟨rfl, hb⟩
  have hb4 := bstep hb3 hb
  clear hb qX3_0' qX3_1' qT2_0' qT2_1' E3
  have qX4_2' := qX4_2.out _ hb4
  go_wp2_with fail
  refine (E4.out _ hb4).mono ?_
  rintro e W5 ⟨rfl, hb⟩
  have hb5 := bstep hb4 hb
  clear hb qX4_2' E4
  have qX5_2' := qX5_2.out _ hb5
  go_wp2_with fail
  refine (E5.out _ hb5).mono ?_
  rintro e W6 ⟨rfl, hb⟩
  have hb6 := bstep hb5 hb
  clear hb qX5_2' E5
  have qX2_1' := qX2_1.out _ hb6
  have qX3_1' := qX3_1.out _ hb6
  go_wp2_with fail
  refine (E6.out _ hb6).mono ?_
  rintro e W7 ⟨v7, rfl, hv7, hb⟩
  have hb7 := bstep hb6 hb
  have LT : ∀ y ∈ Lp ++ Lq, ∀ k, y.v.ownBlock = some k → k < W6.heap.size := fun y hy k e => by
    have h1 := ((SA'.out.l.own y hy).lt k e).2
    have h2 := hb6.size
    omega
  have hB7 : B1 ≤ W7.heap.size := by have := hb7.size; omega
  have E7 := hidp (apart_any B1 W6.heap.size (np + nq) v7 5 (Lp ++ Lq) _ W7 (by rw [List.map_append]; exact hv7) LT (by rw [List.length_append, TP'.out.len, TQ'.out.len]) (by have h1 := TP'.out.few; have h2 := TQ'.out.few; omega) hB7 (SA'.out.below hb7) (fun y hy => by rcases List.mem_append.1 hy with hy | hy; exact TP'.out.isI y hy; exact TQ'.out.isI y hy))
  have HW7 := hidp (bstep HW.out hb7)
  obtain ⟨a7, c7, rfl, _, _⟩ := owns_form hv7
  clear hb hb1 hb2 hb3 hb4 hb5 hb6 hb7 hv7 E6 LT SA' HW TP' TQ' qX2_1' qX3_1'
  go_wp2_with fail
  refine E7.out.mono ?_
  rintro e W8 ⟨rfl, hb, hK⟩
  have HW8 := hidp (HW7.out.trans (hb.mono hB0))
  have qk := box_cell hK (t := 30) (P := X4) (cs := [.int .i64 k4, .int .i64 l4, .slice ak nk ck]) (by simp) 2 (by simp) W8 (Below.refl _ _)
  have qm := box_cell hK (t := 30) (P := X5) (cs := [.int .i64 k5, .int .i64 l5, .slice am nm cm]) (by simp) 2 (by simp) W8 (Below.refl _ _)
  simp only [List.getElem?_cons_succ, List.getElem?_cons_zero] at qk qm
  have hB8 : B1 ≤ W8.heap.size := by have := hb.size; omega
  have ha : Below W8.heap.size W8 (W8.alloc (.cells #[.slice ak nk ck, .slice am nm cm] 28)) := (Below.refl _ _).alloc (Nat.le_refl _) _
  have hS2 : Sep B1 W8 [ec (.slice ak nk ck) nk lk, ec (.slice am nm cm) nm lm] := hK.sub (by simp)
  have E8 := hidp (apartc_c B1 W8.heap.size 0 2 2 0 9 [ec (.slice ak nk ck) nk lk, ec (.slice am nm cm) nm lm] (W8.alloc (.cells #[.slice ak nk ck, .slice am nm cm] 28)) rfl (by omega) (by omega) (by omega) (by omega) (by have := ha.size; omega) ⟨by simp, fun i x hx => match i, hx with
      | 0, hx => by cases hx; unfold World.cell?; rw [heap_alloc_new]; rfl
      | 1, hx => by cases hx; unfold World.cell?; rw [heap_alloc_new]; rfl⟩ (fun x hx e => by
      have := ((hS2.own x hx).lt _ e).2
      omega) (hS2.below ha) (fun x hx => by
      simp only [List.mem_cons, List.not_mem_nil, or_false] at hx
      rcases hx with rfl | rfl
      · exact ⟨nk, lk, rfl, hnk⟩
      · exact ⟨nm, lm, rfl, hnm⟩))
  have HA := hidp (HW8.out.trans (ha.mono (by omega)))
  clear hb hK hS2 ha E7 HW7 HW8
  go_wp2_with fail
  refine E8.out.mono ?_
  rintro e W9 ⟨rfl, hb⟩
  have HW9 := hidp (HA.out.trans (hb.mono hB0))
  clear hb E8 HA
  go_wp2
  go_ret
  exact ⟨rfl, HW9.out⟩
end Go.Proofs.Ytffocoflmbhknaa.sketchOwn
