/- bytes.Equal, and slices.CompactFunc over a row of tokens. -/
import Derived.Test.YtnaicfffplnebaaNamesB
import Derived.Deep.QuietTactic
import Derived.BigQuiet
import Derived.Deep.LoopGhost
import Derived.Lib.SliceRun
import Derived.IntWalk
import Derived.Shelf.SlicesE.Compact
namespace Go.Proofs.Ytnaicfffplnebaa.Man
open Go.RowKit Go.Sort Go.Lib Go.Proofs.YtnaicfffplnebaaW.PrintWords Go.Proofs.YtnaicfffplnebaaW.PrintLast Go.Proofs.YtnaicfffplnebaaW.PrintMore

theorem eq_bytes (l0 l1 : List Int) : ((strOfNums l0).toList == (strOfNums l1).toList) = decide (byt l0 = byt l1) := by
  have h : ∀ l, (strOfNums l).toList = byt l := by
    intro l
    rw [ByteArray.toList_eq]; rfl
  rw [h, h]
  by_cases e : byt l0 = byt l1 <;> simp [e]
theorem bytes_Equal_calls (A0 : Option Addr) (c0 : Nat) (l0 : List Int) (A1 : Option Addr) (c1 : Nat) (l1 : List Int) (w : World) (hr0 : Kd.C (Kd.int .u8) w A0 l0.length l0) (hr1 : Kd.C (Kd.int .u8) w A1 l1.length l1) :
    Calls Try.prog 27 #[.slice A0 l0.length c0, .slice A1 l1.length c1] w fun e w' => e = .returned (.bool (decide (byt l0 = byt l1))) ∧ w' = w := by
  have hcv3 := Kd.C_string (P := Try.prog) (A := A0) (c := c0) Try.underlying24 Try.underlying5 Try.underlying9 hr0
  have hcv4 := Kd.C_string (P := Try.prog) (A := A1) (c := c1) Try.underlying24 Try.underlying5 Try.underlying9 hr1
  have HE := Lib.hid (eq_bytes l0 l1)
  clear hr0 hr1
  go_enter Try.func27, Try.ntmps27
  go_wp2
  go_ret
  refine ⟨?_, rfl⟩
  rw [← HE.out]; rfl

/-! ### what is kept of a row: the first, and what differs from the one before it -/
section
variable {α : Type} [Inhabited α] (q : α → α → Bool)
def keepB (d : Array α) (j : Nat) : Bool := decide (j = 0) || !q d[j]! d[j - 1]!
def compB (d : Array α) (m : Nat) : List α := ((List.range m).filter (keepB q d)).map (d[·]!)
variable {q}
theorem keepB_one (d : Array α) : ∀ j, j < 1 → keepB q d j = true := by
  intro j hj
  have : j = 0 := by omega
  subst this
  simp [keepB]
theorem keepB_pos {d : Array α} {m : Nat} (h : q d[m]! d[m - 1]! = false) : keepB q d m = true := by simp [keepB, h]
theorem keepB_neg {d : Array α} {m : Nat} (hm : 0 < m) (h : q d[m]! d[m - 1]! = true) : keepB q d m = false := by
  have : m ≠ 0 := by omega
  simp [keepB, h, this]
theorem compB_succ (d : Array α) (m : Nat) : compB q d (m + 1) = compB q d m ++ (if keepB q d m then [d[m]!] else []) := by
  unfold compB
  rw [List.range_succ, List.filter_append, List.map_append]
  congr 1
  by_cases h : keepB q d m <;> simp [h]
theorem compB_all (d : Array α) (m : Nat) (h : ∀ j, j < m → keepB q d j = true) : compB q d m = (List.range m).map (d[·]!) := by
  unfold compB
  rw [List.filter_eq_self.2 (fun j hj => h j (List.mem_range.1 hj))]
structure CInv (q : α → α → Bool) (d : Array α) (m k : Nat) (dk : Array α) : Prop where
  size : dk.size = d.size
  len : (compB q d m).length = k
  lt : k < m
  low : ∀ j, j < k → (compB q d m)[j]? = some dk[j]!
  high : ∀ j, k ≤ j → dk[j]! = d[j]!
theorem CInv.start {d : Array α} {k0 : Nat} (hall : ∀ j, j < k0 → keepB q d j = true) (hdup : keepB q d k0 = false) : CInv q d (k0 + 1) k0 d where
  size := rfl
  len := by rw [compB_succ, hdup, compB_all d k0 hall]; simp
  lt := Nat.lt_succ_self _
  low := fun j hj => by rw [compB_succ, hdup, compB_all d k0 hall]; simp [hj]
  high := fun _ _ => rfl
theorem CInv.keep {d dk : Array α} {m k : Nat} (h : CInv q d m k dk) (hm : m < d.size) (hk : keepB q d m = true) : CInv q d (m + 1) (k + 1) (dk.setIfInBounds k d[m]!) where
  size := by simp [h.size]
  len := by rw [compB_succ, hk]; simp [h.len]
  lt := by have := h.lt; omega
  low := fun j hj => by
    rw [compB_succ, hk, if_pos rfl]
    by_cases e : j = k
    · subst e
      rw [List.getElem?_append_right (by rw [h.len]; exact Nat.le_refl _), h.len, Nat.sub_self, getElem!_set_same dk j _ (by have := h.lt; have := h.size; omega)]
      rfl
    · rw [List.getElem?_append_left (by rw [h.len]; omega), h.low j (by omega), getElem!_set_other dk k j _ e]
  high := fun j hj => by rw [getElem!_set_other dk k j _ (by omega), h.high j (by omega)]
theorem CInv.skip {d dk : Array α} {m k : Nat} (h : CInv q d m k dk) (hk : keepB q d m = false) : CInv q d (m + 1) k dk where
  size := h.size
  len := by rw [compB_succ, hk]; simpa using h.len
  lt := by have := h.lt; omega
  low := fun j hj => by rw [compB_succ, hk]; simpa using h.low j hj
  high := h.high
theorem CInv.done {d dk : Array α} {k : Nat} (h : CInv q d d.size k dk) (z : α) :
    lay dk k (List.replicate (d.size - k) z) = (compB q d d.size ++ List.replicate (d.size - k) z).toArray := by
  have hk := h.lt
  have hs := h.size
  apply Array.ext_getElem?
  intro j
  rw [lay_get? _ _ _ _ (by simp; omega), show (compB q d d.size ++ List.replicate (d.size - k) z).toArray[j]? = (compB q d d.size ++ List.replicate (d.size - k) z)[j]? from List.getElem?_toArray]
  simp only [List.length_replicate]
  by_cases c : j < k
  · rw [if_neg (by omega), List.getElem?_append_left (by rw [h.len]; exact c), h.low j c, getElem!_pos dk j (by omega), Array.getElem?_eq_getElem]
  · rw [List.getElem?_append_right (by rw [h.len]; omega), h.len]
    by_cases c2 : j < d.size
    · rw [if_pos (by omega)]
    · rw [if_neg (by omega), Array.getElem?_eq_none (by omega), List.getElem?_eq_none (by simp; omega)]
end

/-- Two tokens of the same bytes. -/
def sameV {w : World} (p q : TokV w) : Bool := decide (byt p.x = byt q.x)

theorem store_world {w0 : World} {w : World} {g q2 : Nat} {dk : Array (TokV w0)} (wr : World) (kk n : Nat) (u : TokV w0) (h : wr = putRow TokV.v (Sort.ahead w q2) g 0 dk) (hk : kk < dk.size) :
    (wr.setCell ⟨g, kk, none⟩ u.v).drewN n = putRow TokV.v (Sort.ahead w (q2 + n)) g 0 (dk.setIfInBounds kk u) := by
  have := putRow_set TokV.v (Sort.ahead w q2) g 0 dk kk u hk
  rw [Nat.zero_add] at this
  rw [h, this, putRow_drewN]

theorem enters27 : ∀ args w, (callFunc 27 args).run Try.prog w = .ok (.enter 27 args) w := enters_of Try.func27 (by kernel_rfl) rfl

set_option maxHeartbeats 4000000 in
set_option maxRecDepth 1000000 in
/-- slices.CompactFunc over a row of tokens. -/
theorem compact_tt {w0 : World} (g cap : Nat) (d : Array (TokV w0)) (w : World) (hle : w0.heap.size ≤ g) (hold : ∀ k, k < w0.heap.size → w.heap[k]? = w0.heap[k]?)
    (hH : Holds TokV.v w g 0 d) (hsz : d.size ≤ 9223372036854775807) (hcap : d.size ≤ cap) :
    Calls Try.prog 26 #[.slice (some ⟨g, 0, none⟩) d.size cap, .func (.func 27) #[] #[]] w fun e w' => e = .returned (.slice (some ⟨g, 0, none⟩) (compB sameV d d.size).length cap) ∧
      ∃ q, w' = putRow TokV.v (Sort.ahead w q) g 0 (compB sameV d d.size ++ List.replicate (d.size - (compB sameV d d.size).length) default).toArray := by
  have hO : OneCell (TokV.v (w := w0)) := TokV.one
  have hcl0 := hO.cells
  simp only [Value.cells] at hcl0
  have hst := hO.store Try.prog
  have v23 : ∀ w, (zeroValue 24).run Try.prog w = .ok (TokV.v (default : TokV w0)) w := fun w => by rw [Try.zeroValue24]; rfl
  have same : ∀ q, (∀ j, j < d.size → keepB sameV d j = true) → (compB sameV d d.size).length = d.size ∧ w.drewN q = putRow TokV.v (Sort.ahead w q) g 0 (compB sameV d d.size ++ List.replicate (d.size - (compB sameV d d.size).length) default).toArray := by
    intro q hall
    have e : compB sameV d d.size = d.toList := by rw [compB_all d _ hall, range_map_get]
    rw [e]
    refine ⟨by simp, ?_⟩
    simp only [Array.length_toList, Nat.sub_self, List.replicate_zero, List.append_nil, Array.toArray_toList]
    exact (putRow_self TokV.v (Sort.ahead w q) g 0 d (holds_ahead TokV.v w q g 0 d hH)).symm
  have HS := Lib.hid same
  clear same
  have heq : ∀ (W : World) (n : Nat), (∀ k, k < w0.heap.size → W.heap[k]? = w0.heap[k]?) → ∀ x y : TokV w0, Calls Try.prog 27 #[x.v, y.v] (W.drewN n) fun e w'' => e = .returned (.bool (sameV x y)) ∧ ∃ m, w'' = W.drewN m := by
    intro W n hW x y
    obtain ⟨A0, c0, e0, _, hC0⟩ := x.tok (W.drewN n) hW
    obtain ⟨A1, c1, e1, _, hC1⟩ := y.tok (W.drewN n) hW
    rw [e0, e1]
    exact Calls.quiet_of_same (bytes_Equal_calls A0 c0 x.x A1 c1 y.x _ hC0 hC1)
  have HEQ := Lib.hid heq
  clear heq
  by_cases h2 : d.size < 2
  · have HH := Lib.hid hH
    clear hH
    have HOLD := Lib.hid hold
    clear hold
    go_enter Try.func26, Try.ntmps26
    go_wp2
    go_ret
    obtain ⟨e1, e2⟩ := HS.out 0 (fun j hj => keepB_one d j (by omega))
    exact ⟨by rw [e1]; rfl, 0, e2⟩
  · have HOLD := Lib.hid hold
    clear hold
    go_enter Try.func26, Try.ntmps26
    go_wp2
    go_loopg [5] d.size (fun gg s3 wr => ∃ k q : Nat, 1 ≤ k ∧ k ≤ d.size ∧ d.size - k ≤ gg ∧ s3 = .int .i64 k ∧ wr = w.drewN q ∧ ∀ j, j < k → keepB sameV d j = true)
    case atStart => exact ⟨1, 0, Nat.le_refl _, by omega, by omega, rfl, rfl, keepB_one d⟩
    case round =>
      obtain ⟨k, q, hk1, hk, hg, rfl, rfl, hall⟩ := hrel
      by_cases hlt : k < d.size
      · obtain ⟨c1, f1⟩ := hH k hlt
        obtain ⟨c0, f0⟩ := hH (k - 1) (by omega)
        rw [Nat.zero_add] at c1 f1 c0 f0
        have A := Lib.hid hall
        have HH := Lib.hid hH
        clear hall hH
        have hsub : IntKind.i64.wrap ((k : Int) - 1) = ((k - 1 : Nat) : Int) := by rw [IntWalk.i64_in _ (by omega)]; omega
        have hk1' : k - 1 < d.size := by omega
        generalize hx : d[k]! = x at c1
        generalize hy : d[k - 1]! = y at c0
        have B : Hid (d[k]! = x ∧ d[k - 1]! = y) := ⟨hx, hy⟩
        clear hx hy
        have hq : ∀ n, Calls Try.prog 27 #[x.v, y.v] (w.drewN (q + n)) fun e w'' => e = .returned (.bool (sameV x y)) ∧ ∃ m, w'' = w.drewN (q + m) := fun n => by
          rw [← World.drewN_drewN]
          refine (HEQ.out (w.drewN q) n HOLD.out x y).mono ?_
          rintro e w'' ⟨he, m, rfl⟩
          exact ⟨he, m, World.drewN_drewN _ _ _⟩
        by_cases hdup : sameV x y = true
        · have D := Lib.hid hdup
          rw [hdup] at hq
          have HQ := Lib.hid hq
          clear hq hdup
          go_wp2_with fail
          go_quiet ((go_at_call 27; exact HQ.out _))
          go_wp2
          clear c0 c1 f0 f1
          go_loopg [5, 7] d.size (fun gg s3 s5 wr => ∃ (kk k2 q2 : Nat) (dk : Array (TokV w0)), s3 = .int .i64 kk ∧ s5 = .int .i64 k2 ∧ 1 ≤ k2 ∧ k + k2 ≤ d.size ∧ d.size - (k + k2) ≤ gg ∧ wr = putRow TokV.v (Sort.ahead w q2) g 0 dk ∧ CInv sameV d (k + k2) kk dk)
          case atStart => exact ⟨k, 1, q + nq, d, rfl, rfl, Nat.le_refl _, by omega, by omega, (putRow_self TokV.v (Sort.ahead w (q + nq)) g 0 d (holds_ahead TokV.v w (q + nq) g 0 d HH.out)).symm, CInv.start A.out (keepB_neg (by omega) (by rw [B.out.1, B.out.2]; exact D.out))⟩
          case round =>
            obtain ⟨kk, k2, q2, dk, rfl, rfl, h1, hle2, hg2, hwr, hI⟩ := hrel
            have hkk := hI.lt
            have hds := hI.size
            have hHk : Holds TokV.v wr g 0 dk := by rw [hwr]; exact holds_putRow TokV.v _ g 0 d dk (holds_ahead TokV.v w q2 g 0 d HH.out) hds
            have W2 := Lib.hid hwr
            have I2 := Lib.hid hI
            have hW : ∀ k, k < w0.heap.size → wr.heap[k]? = w0.heap[k]? := by
              intro k3 hk3
              rw [hwr]
              unfold putRow mapBlock
              simp only [heap_ahead, Array.getElem?_modify]
              rw [if_neg (by omega)]
              exact HOLD.out k3 hk3
            have HW := Lib.hid hW
            clear hwr hW
            by_cases hlt2 : k + k2 < d.size
            · obtain ⟨cm, _⟩ := hHk (k + k2) (by omega)
              obtain ⟨cp, _⟩ := hHk (k + k2 - 1) (by omega)
              obtain ⟨ck, fk⟩ := hHk kk (by omega)
              rw [hI.high (k + k2) (by omega), Nat.zero_add] at cm
              rw [hI.high (k + k2 - 1) (by omega), show 0 + (k + k2 - 1) = k + (k2 - 1) by omega] at cp
              rw [Nat.zero_add] at ck fk
              clear hHk hI
              generalize hu : d[k + k2]! = u at cm
              generalize hv : d[k + k2 - 1]! = v at cp
              generalize dk[kk]! = old at ck
              have C : Hid (d[k + k2]! = u ∧ d[k + k2 - 1]! = v) := ⟨hu, hv⟩
              clear hu hv
              have hq2 : ∀ n, Calls Try.prog 27 #[u.v, v.v] (wr.drewN n) fun e w'' => e = .returned (.bool (sameV u v)) ∧ ∃ m, w'' = wr.drewN m := fun n => HEQ.out wr n HW.out u v
              have hsub2 : IntKind.i64.wrap ((k2 : Int) - 1) = ((k2 - 1 : Nat) : Int) := by rw [IntWalk.i64_in _ (by omega)]; omega
              have hk2' : k2 - 1 < d.size - k := by omega
              by_cases huv : sameV u v = true
              · have D2 := Lib.hid huv
                rw [huv] at hq2
                have HQ2 := Lib.hid hq2
                clear hq2 huv
                go_wp2_with fail
                go_quiet ((go_at_call 27; exact HQ2.out _))
                go_wp2
                go_roundg (d.size - (k + (k2 + 1)))
                case measure => omega
                case rel => exact ⟨kk, k2 + 1, q2 + nq, dk, rfl, by go_num, by omega, by omega, Nat.le_refl _, by rw [W2.out, putRow_drewN], I2.out.skip (keepB_neg (by omega) (by rw [C.out.1, C.out.2]; exact D2.out))⟩
              · have huv := Bool.eq_false_iff.2 huv
                have D2 := Lib.hid huv
                rw [huv] at hq2
                have HQ2 := Lib.hid hq2
                clear hq2 huv
                go_wp2_with fail
                go_quiet ((go_at_call 27; exact HQ2.out _))
                go_wp2
                go_roundg (d.size - (k + (k2 + 1)))
                case measure => omega
                case rel => exact ⟨kk + 1, k2 + 1, q2 + nq, dk.setIfInBounds kk u, by go_num, by go_num, by omega, by omega, Nat.le_refl _, store_world wr kk nq u W2.out (by omega), by have := I2.out.keep hlt2 (keepB_pos (by rw [C.out.1, C.out.2]; exact D2.out)); rwa [C.out.1] at this⟩
            · have hend : k + k2 = d.size := by omega
              have hcl : ∀ ty, (Builtin.clear_ #[22] ty #[.slice (some ⟨g, kk, none⟩) (d.size - kk) (cap - kk)]).run Try.prog wr = .ok (.tuple #[]) (wr.setCells g (0 + kk) (List.replicate (d.size - kk) (TokV.v (default : TokV w0)))) :=
                fun ty => by
                  have := Lib.run_clear_slice (P := Try.prog) wr _ _ ty _ Try.underlying22 v23 (hO.cells default) (hO default) g (0 + kk) (d.size - kk) (cap - kk) (by omega) (fun j hj => by rw [show 0 + kk + j = 0 + (kk + j) by omega, (hHk (kk + j) (by omega)).1]; rfl) (fun j hj => by rw [show 0 + kk + j = 0 + (kk + j) by omega]; exact (hHk (kk + j) (by omega)).2)
                  rwa [Nat.zero_add] at this ⊢
              clear hHk hI
              go_wp2
              go_ret
              have hI := I2.out
              rw [hend] at hI
              refine ⟨by rw [hI.len]; rfl, q2, ?_⟩
              rw [hI.len, ← hI.done default, ← putRow_setCells TokV.v _ g 0 _ dk kk (by simp; omega), ← W2.out, List.map_replicate, Nat.zero_add]
        · have hdup := Bool.eq_false_iff.2 hdup
          have D := Lib.hid hdup
          rw [hdup] at hq
          have HQ := Lib.hid hq
          clear hq hdup
          go_wp2_with fail
          go_quiet ((go_at_call 27; exact HQ.out _))
          go_wp2
          go_roundg (d.size - (k + 1))
          case measure => omega
          case rel =>
            refine ⟨k + 1, q + nq, by omega, by omega, Nat.le_refl _, by go_num, ?_, fun j hj => ?_⟩
            · first | rfl | exact World.drewN_drewN _ _ _
            by_cases e : j = k
            · subst e
              exact keepB_pos (by rw [B.out.1, B.out.2]; exact D.out)
            · exact A.out j (by omega)
      · have : k = d.size := by omega
        subst this
        have HH := Lib.hid hH
        clear hH
        have A := Lib.hid hall
        clear hall
        go_wp2
        go_ret
        obtain ⟨e1, e2⟩ := HS.out q A.out
        exact ⟨by rw [e1]; rfl, q, e2⟩
end Go.Proofs.Ytnaicfffplnebaa.Man
