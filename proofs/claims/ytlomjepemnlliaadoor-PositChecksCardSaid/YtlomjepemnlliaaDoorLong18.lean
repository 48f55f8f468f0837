/- trawllaw18.long: what it lets by is small. -/
import Derived.Test.YtlomjepemnlliaaDoorPoCheck
set_option linter.unusedSimpArgs false
set_option linter.unusedVariables false
namespace Go.Proofs.YtlomjepemnlliaaDoor
open Go.RowKit

/-- The lists of positions have lengths that a machine holds. -/
structure Po.Small (p : Po) : Prop where
  follow : p.follow.length ≤ 140737488355328
  rows : ∀ r ∈ p.follow, r.length ≤ 140737488355328

/-- What long answers. -/
def Longed18 (n m : Nat) (w : World) (e : Ending) (w' : World) : Prop := ∃ lg : Bool, e = .returned (.bool lg) ∧ (lg = false → n ≤ 5000 ∧ m ≤ 2000) ∧ Below w.heap.size w w'

set_option maxRecDepth 100000 in
set_option maxHeartbeats 2000000 in
theorem long18_any (p : Po) (pa : PoA) (s : ByteArray) (cf ef : Int) (w : World) (hs : s.size ≤ 140737488355328) (hsm : p.Small) (hin : PoIn (· < w.heap.size) w p pa) :
    Calls Tryd.prog 12 #[.agg (p.cells pa).toArray, .agg #[.string s, .int .i64 cf, .int .i64 ef]] w (Longed18 p.follow.length s.size w) := by
  have HIN := hide hin.follow
  have HSM := hide hsm.rows
  have hfl := hsm.follow
  clear hin hsm
  simp only [Po.cells]
  have hbp := (Blk.new w 26 #[.slice pa.s p.sets.length pa.cs, .int .i64 p.null, .slice pa.f p.first.length pa.cf, .slice pa.l p.last.length pa.cl, .slice pa.w p.follow.length pa.cw]).alloc (.cells #[.string s, .int .i64 cf, .int .i64 ef] 28)
  have hbs := Blk.new (w.alloc (.cells #[.slice pa.s p.sets.length pa.cs, .int .i64 p.null, .slice pa.f p.first.length pa.cf, .slice pa.l p.last.length pa.cl, .slice pa.w p.follow.length pa.cw] 26)) 28 #[.string s, .int .i64 cf, .int .i64 ef]
  rw [World.size_alloc] at hbs
  have hbel := ((Below.refl w.heap.size w).alloc (Nat.le_refl _) (.cells #[.slice pa.s p.sets.length pa.cs, .int .i64 p.null, .slice pa.f p.first.length pa.cf, .slice pa.l p.last.length pa.cl, .slice pa.w p.follow.length pa.cw] 26)).alloc (by simp) (.cells #[.string s, .int .i64 cf, .int .i64 ef] 28)
  have HB := hide (And.intro hbel (And.intro hbp hbs))
  clear hbel hbp hbs
  go_enter Tryd.func12, Tryd.ntmps12
  go_wp2_with fail
  generalize ((w.alloc (.cells #[.slice pa.s p.sets.length pa.cs, .int .i64 p.null, .slice pa.f p.first.length pa.cf, .slice pa.l p.last.length pa.cl, .slice pa.w p.follow.length pa.cw] 26)).alloc (.cells #[.string s, .int .i64 cf, .int .i64 ef] 28)) = W at *
  go_loopw [5, 6] (fun nv kv wr => ∃ (k : Nat) (n : Int), nv = .int .i64 n ∧ kv = .int .i64 k ∧ k ≤ p.follow.length ∧ (p.follow.length : Int) ≤ n ∧ n ≤ 140737488375328 ∧ wr = W) (fun _ kv _ => p.follow.length - (intOf kv).toNat)
  case atStart => exact ⟨0, _, rfl, rfl, by omega, by omega, by omega, rfl⟩
  case round =>
    obtain ⟨k, n, rfl, rfl, hk, hn1, hn2, rfl⟩ := hrel
    have cp := HB.out.2.1.cell
    have cs := HB.out.2.2.cell
    by_cases hlt : k < p.follow.length
    · have g1 : decide ((k : Int) < (p.follow.length : Int)) = true := decide_eq_true (by omega)
      by_cases hn3 : n ≤ 20000
      · have g2 : decide (n ≤ 20000) = true := decide_eq_true hn3
        have he := List.getElem?_eq_getElem hlt
        have hrl := HSM.out _ (List.getElem_mem hlt)
        generalize p.follow[k] = r at *
        obtain ⟨b, o, B, c, ew, hb, c0, _⟩ := (HIN.out.same (ok' := (· < wr.heap.size)) (same_of_below HB.out.1) (fun y hy => Nat.lt_of_lt_of_le hy HB.out.1.size)).cell he
        rw [ew] at cp
        clear ew he
        go_wp2_with fail
        go_roundw
        case rel => exact ⟨k + 1, n + r.length, by go_num, by go_num, hlt, by omega, by omega, trivial⟩
        case measure => simp [intOf]; omega
      · have g2 : decide (n ≤ 20000) = false := decide_eq_false hn3
        have d5 : decide ((5000 : Int) < n) = true := decide_eq_true (by omega)
        go_wp2_with fail
        go_ret
        exact ⟨true, rfl, (fun h => by cases h), HB.out.1⟩
    · have g1 : decide ((k : Int) < (p.follow.length : Int)) = false := decide_eq_false (by omega)
      by_cases h5 : (5000 : Int) < n
      · have d5 : decide ((5000 : Int) < n) = true := decide_eq_true h5
        go_wp2_with fail
        go_ret
        exact ⟨true, rfl, (fun h => by cases h), HB.out.1⟩
      have d5 : decide ((5000 : Int) < n) = false := decide_eq_false h5
      by_cases h2 : (2000 : Int) < s.size
      · have d2 : decide ((2000 : Int) < (s.size : Int)) = true := decide_eq_true h2
        go_wp2_with fail
        all_goals (go_ret; exact ⟨true, rfl, (fun h => by cases h), HB.out.1⟩)
      · have d2 : decide ((2000 : Int) < (s.size : Int)) = false := decide_eq_false h2
        go_wp2_with fail
        all_goals (go_ret; exact ⟨_, rfl, fun _ => ⟨by omega, by omega⟩, HB.out.1⟩)
end Go.Proofs.YtlomjepemnlliaaDoor
