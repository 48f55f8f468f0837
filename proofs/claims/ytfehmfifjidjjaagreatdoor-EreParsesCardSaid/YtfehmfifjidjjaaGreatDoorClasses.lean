/- Named classes of bytes; trawlref02. (Printed by gen_classes.py.) -/
import Derived.Test.YtfehmfifjidjjaaGreatDoorRefSets2
set_option linter.unusedSimpArgs false
set_option linter.unusedVariables false
namespace Go.Proofs.YtfehmfifjidjjaaGreatDoor
open Go.RowKit

def bt5 (lo hi b : Nat) : Bool := decide (lo ≤ b ∧ b ≤ hi)
def up5 (b : Nat) : Bool := bt5 65 90 b
def low5 (b : Nat) : Bool := bt5 97 122 b
def dig5 (b : Nat) : Bool := bt5 48 57 b
/-- The class of a name. -/
def cls5 (s : List UInt8) : Option (Nat → Bool) :=
 if s = [97, 108, 110, 117, 109] then some (fun b => up5 b || low5 b || dig5 b)
 else if s = [97, 108, 112, 104, 97] then some (fun b => up5 b || low5 b)
 else if s = [108, 111, 119, 101, 114] then some (fun b => low5 b)
 else if s = [117, 112, 112, 101, 114] then some (fun b => up5 b)
 else if s = [120, 100, 105, 103, 105, 116] then some (fun b => dig5 b || bt5 65 70 b || bt5 97 102 b)
 else if s = [100, 105, 103, 105, 116] then some (fun b => dig5 b)
 else if s = [115, 112, 97, 99, 101] then some (fun b => bt5 9 13 b || decide (b = 32))
 else if s = [98, 108, 97, 110, 107] then some (fun b => decide (b = 9) || decide (b = 32))
 else if s = [99, 110, 116, 114, 108] then some (fun b => bt5 0 31 b || decide (b = 127))
 else if s = [112, 114, 105, 110, 116] then some (fun b => bt5 32 126 b)
 else if s = [103, 114, 97, 112, 104] then some (fun b => bt5 33 126 b)
 else if s = [112, 117, 110, 99, 116] then some (fun b => bt5 33 126 b && !up5 b && !low5 b && !dig5 b)
 else none
theorem in5_any (b lo hi : Nat) (w : World) : Calls Tryz.prog 179 #[.int .i64 (b : Int), .int .i64 (lo : Int), .int .i64 (hi : Int)] w fun e w' => e = .returned (.bool (bt5 lo hi b)) ∧ w' = w := by
 unfold bt5
 by_cases h1 : lo ≤ b
 ·have e1 : decide ((lo : Int) ≤ (b : Int)) = true := decide_eq_true (by omega)
  by_cases h2 : b ≤ hi
  ·have e2 : decide ((b : Int) ≤ (hi : Int)) = true := decide_eq_true (by omega)
   go_enter Tryz.func179, Tryz.ntmps179
   go_wp2_with fail
   go_ret
   exact ⟨by rw [decide_eq_true ⟨h1, h2⟩]; rfl, rfl⟩
  ·have e2 : decide ((b : Int) ≤ (hi : Int)) = false := decide_eq_false (by omega)
   go_enter Tryz.func179, Tryz.ntmps179
   go_wp2_with fail
   go_ret
   exact ⟨by rw [decide_eq_false (fun h => h2 h.2)]; rfl, rfl⟩
 ·have e1 : decide ((lo : Int) ≤ (b : Int)) = false := decide_eq_false (by omega)
  go_enter Tryz.func179, Tryz.ntmps179
  go_wp2_with fail
  go_ret
  exact ⟨by rw [decide_eq_false (fun h => h1 h.1)]; rfl, rfl⟩
def memb5 (s : ByteArray) (b : Nat) : Bool := match cls5 s.toList with | some f => f b | none => false
set_option maxRecDepth 100000 in
set_option maxHeartbeats 4000000 in
theorem member_any (s : ByteArray) (b : Nat) (hb : b < 256) (w : World) : Calls Tryz.prog 161 #[.string s, .int .i64 (b : Int)] w fun e w' => e = .returned (.bool (memb5 s b)) ∧ w' = w := by
 have HI := hide (fun (lo hi : Nat) (y : World) => in5_any b lo hi y)
 obtain ⟨r, hr⟩ : ∃ r, r = memb5 s b := ⟨_, rfl⟩
 rw [← hr]
 have HR := hide hr
 clear hr
 have hlb : (b : Int) < 256 := by omega
 go_enter Tryz.func161, Tryz.ntmps161
 go_wp2_with fail
 refine (HI.out 65 90 w).mono ?_
 rintro e w1 ⟨rfl, hw1⟩
 subst hw1
 go_wp2_with fail
 refine (HI.out 97 122 w1).mono ?_
 rintro e w2 ⟨rfl, hw2⟩
 subst hw2
 go_wp2_with fail
 refine (HI.out 48 57 w2).mono ?_
 rintro e w3 ⟨rfl, hw3⟩
 subst hw3
 generalize hu : bt5 65 90 b = u at *
 generalize hl : bt5 97 122 b = l at *
 generalize hd : bt5 48 57 b = d at *
 have HU := hide (And.intro hu (And.intro hl hd))
 clear hu hl hd
 have h9 : ((b : Int) == 9) = decide (b = 9) := by by_cases h : b = 9 <;> simp [h]; omega
 have h32 : ((b : Int) == 32) = decide (b = 32) := by by_cases h : b = 32 <;> simp [h]; omega
 have h127 : ((b : Int) == 127) = decide (b = 127) := by by_cases h : b = 127 <;> simp [h]; omega
 generalize hq9 : decide (b = 9) = q9 at *
 generalize hq32 : decide (b = 32) = q32 at *
 generalize hq127 : decide (b = 127) = q127 at *
 have HQ := hide (And.intro hq9 (And.intro hq32 hq127))
 clear hq9 hq32 hq127
 by_cases c0 : s.toList = [97, 108, 110, 117, 109]
 ·have hc : cls5 s.toList = some (fun b => up5 b || low5 b || dig5 b) := by rw [c0]; rfl
  have talnum : (s.toList == [97, 108, 110, 117, 109]) = true := by rw [c0]; decide
  have talpha : (s.toList == [97, 108, 112, 104, 97]) = false := by rw [c0]; decide
  have tlower : (s.toList == [108, 111, 119, 101, 114]) = false := by rw [c0]; decide
  have tupper : (s.toList == [117, 112, 112, 101, 114]) = false := by rw [c0]; decide
  have txdigit : (s.toList == [120, 100, 105, 103, 105, 116]) = false := by rw [c0]; decide
  have tdigit : (s.toList == [100, 105, 103, 105, 116]) = false := by rw [c0]; decide
  have tspace : (s.toList == [115, 112, 97, 99, 101]) = false := by rw [c0]; decide
  have tblank : (s.toList == [98, 108, 97, 110, 107]) = false := by rw [c0]; decide
  have tcntrl : (s.toList == [99, 110, 116, 114, 108]) = false := by rw [c0]; decide
  have tprint : (s.toList == [112, 114, 105, 110, 116]) = false := by rw [c0]; decide
  have tgraph : (s.toList == [103, 114, 97, 112, 104]) = false := by rw [c0]; decide
  have tpunct : (s.toList == [112, 117, 110, 99, 116]) = false := by rw [c0]; decide
  have HK := hide (show r = (u || l || d) by
   rw [HR.out]
   unfold memb5
   rw [hc]
   simp only [up5, low5, dig5, HU.out.1, HU.out.2.1, HU.out.2.2, HQ.out.1, HQ.out.2.1, HQ.out.2.2])
  clear hc c0  
  clear HI HR HU HQ
  cases u <;> cases l <;> cases d
  all_goals
   go_wp2_with fail
   go_ret
   exact ⟨by rw [HK.out]; rfl, rfl⟩
 by_cases c1 : s.toList = [97, 108, 112, 104, 97]
 ·have hc : cls5 s.toList = some (fun b => up5 b || low5 b) := by rw [c1]; rfl
  have talnum : (s.toList == [97, 108, 110, 117, 109]) = false := by rw [c1]; decide
  have talpha : (s.toList == [97, 108, 112, 104, 97]) = true := by rw [c1]; decide
  have tlower : (s.toList == [108, 111, 119, 101, 114]) = false := by rw [c1]; decide
  have tupper : (s.toList == [117, 112, 112, 101, 114]) = false := by rw [c1]; decide
  have txdigit : (s.toList == [120, 100, 105, 103, 105, 116]) = false := by rw [c1]; decide
  have tdigit : (s.toList == [100, 105, 103, 105, 116]) = false := by rw [c1]; decide
  have tspace : (s.toList == [115, 112, 97, 99, 101]) = false := by rw [c1]; decide
  have tblank : (s.toList == [98, 108, 97, 110, 107]) = false := by rw [c1]; decide
  have tcntrl : (s.toList == [99, 110, 116, 114, 108]) = false := by rw [c1]; decide
  have tprint : (s.toList == [112, 114, 105, 110, 116]) = false := by rw [c1]; decide
  have tgraph : (s.toList == [103, 114, 97, 112, 104]) = false := by rw [c1]; decide
  have tpunct : (s.toList == [112, 117, 110, 99, 116]) = false := by rw [c1]; decide
  have HK := hide (show r = (u || l) by
   rw [HR.out]
   unfold memb5
   rw [hc]
   simp only [up5, low5, dig5, HU.out.1, HU.out.2.1, HU.out.2.2, HQ.out.1, HQ.out.2.1, HQ.out.2.2])
  clear hc c1 c0 
  clear HI HR HU HQ
  cases u <;> cases l
  all_goals
   go_wp2_with fail
   go_ret
   exact ⟨by rw [HK.out]; rfl, rfl⟩
 by_cases c2 : s.toList = [108, 111, 119, 101, 114]
 ·have hc : cls5 s.toList = some (fun b => low5 b) := by rw [c2]; rfl
  have talnum : (s.toList == [97, 108, 110, 117, 109]) = false := by rw [c2]; decide
  have talpha : (s.toList == [97, 108, 112, 104, 97]) = false := by rw [c2]; decide
  have tlower : (s.toList == [108, 111, 119, 101, 114]) = true := by rw [c2]; decide
  have tupper : (s.toList == [117, 112, 112, 101, 114]) = false := by rw [c2]; decide
  have txdigit : (s.toList == [120, 100, 105, 103, 105, 116]) = false := by rw [c2]; decide
  have tdigit : (s.toList == [100, 105, 103, 105, 116]) = false := by rw [c2]; decide
  have tspace : (s.toList == [115, 112, 97, 99, 101]) = false := by rw [c2]; decide
  have tblank : (s.toList == [98, 108, 97, 110, 107]) = false := by rw [c2]; decide
  have tcntrl : (s.toList == [99, 110, 116, 114, 108]) = false := by rw [c2]; decide
  have tprint : (s.toList == [112, 114, 105, 110, 116]) = false := by rw [c2]; decide
  have tgraph : (s.toList == [103, 114, 97, 112, 104]) = false := by rw [c2]; decide
  have tpunct : (s.toList == [112, 117, 110, 99, 116]) = false := by rw [c2]; decide
  have HK := hide (show r = (l) by
   rw [HR.out]
   unfold memb5
   rw [hc]
   simp only [up5, low5, dig5, HU.out.1, HU.out.2.1, HU.out.2.2, HQ.out.1, HQ.out.2.1, HQ.out.2.2])
  clear hc c2 c0 c1 
  clear HI HR HU HQ
  cases l
  all_goals
   go_wp2_with fail
   go_ret
   exact ⟨by rw [HK.out]; rfl, rfl⟩
 by_cases c3 : s.toList = [117, 112, 112, 101, 114]
 ·have hc : cls5 s.toList = some (fun b => up5 b) := by rw [c3]; rfl
  have talnum : (s.toList == [97, 108, 110, 117, 109]) = false := by rw [c3]; decide
  have talpha : (s.toList == [97, 108, 112, 104, 97]) = false := by rw [c3]; decide
  have tlower : (s.toList == [108, 111, 119, 101, 114]) = false := by rw [c3]; decide
  have tupper : (s.toList == [117, 112, 112, 101, 114]) = true := by rw [c3]; decide
  have txdigit : (s.toList == [120, 100, 105, 103, 105, 116]) = false := by rw [c3]; decide
  have tdigit : (s.toList == [100, 105, 103, 105, 116]) = false := by rw [c3]; decide
  have tspace : (s.toList == [115, 112, 97, 99, 101]) = false := by rw [c3]; decide
  have tblank : (s.toList == [98, 108, 97, 110, 107]) = false := by rw [c3]; decide
  have tcntrl : (s.toList == [99, 110, 116, 114, 108]) = false := by rw [c3]; decide
  have tprint : (s.toList == [112, 114, 105, 110, 116]) = false := by rw [c3]; decide
  have tgraph : (s.toList == [103, 114, 97, 112, 104]) = false := by rw [c3]; decide
  have tpunct : (s.toList == [112, 117, 110, 99, 116]) = false := by rw [c3]; decide
  have HK := hide (show r = (u) by
   rw [HR.out]
   unfold memb5
   rw [hc]
   simp only [up5, low5, dig5, HU.out.1, HU.out.2.1, HU.out.2.2, HQ.out.1, HQ.out.2.1, HQ.out.2.2])
  clear hc c3 c0 c1 c2 
  clear HI HR HU HQ
  cases u
  all_goals
   go_wp2_with fail
   go_ret
   exact ⟨by rw [HK.out]; rfl, rfl⟩
 by_cases c4 : s.toList = [120, 100, 105, 103, 105, 116]
 ·have hc : cls5 s.toList = some (fun b => dig5 b || bt5 65 70 b || bt5 97 102 b) := by rw [c4]; rfl
  have talnum : (s.toList == [97, 108, 110, 117, 109]) = false := by rw [c4]; decide
  have talpha : (s.toList == [97, 108, 112, 104, 97]) = false := by rw [c4]; decide
  have tlower : (s.toList == [108, 111, 119, 101, 114]) = false := by rw [c4]; decide
  have tupper : (s.toList == [117, 112, 112, 101, 114]) = false := by rw [c4]; decide
  have txdigit : (s.toList == [120, 100, 105, 103, 105, 116]) = true := by rw [c4]; decide
  have tdigit : (s.toList == [100, 105, 103, 105, 116]) = false := by rw [c4]; decide
  have tspace : (s.toList == [115, 112, 97, 99, 101]) = false := by rw [c4]; decide
  have tblank : (s.toList == [98, 108, 97, 110, 107]) = false := by rw [c4]; decide
  have tcntrl : (s.toList == [99, 110, 116, 114, 108]) = false := by rw [c4]; decide
  have tprint : (s.toList == [112, 114, 105, 110, 116]) = false := by rw [c4]; decide
  have tgraph : (s.toList == [103, 114, 97, 112, 104]) = false := by rw [c4]; decide
  have tpunct : (s.toList == [112, 117, 110, 99, 116]) = false := by rw [c4]; decide
  have HI0 := hide (HI.out 65 70 w3)
  generalize hi0 : bt5 65 70 b = i0 at *
  have HI1 := hide (HI.out 97 102 w3)
  generalize hi1 : bt5 97 102 b = i1 at *
  have HK := hide (show r = (d || i0 || i1) by
   rw [HR.out]
   unfold memb5
   rw [hc]
   simp only [up5, low5, dig5, HU.out.1, HU.out.2.1, HU.out.2.2, HQ.out.1, HQ.out.2.1, HQ.out.2.2, hi0, hi1])
  clear hc c4 c0 c1 c2 c3 hi0 hi1
  clear HI HR HU HQ
  cases d with
  | true =>
   go_wp2_with fail
   go_ret
   exact ⟨by rw [HK.out]; rfl, rfl⟩
  | false =>
   go_wp2_with fail
   refine HI0.out.mono ?_
   rintro e w4 ⟨rfl, hw4⟩
   subst hw4
   cases i0 with
   | true =>
    go_wp2_with fail
    go_ret
    exact ⟨by rw [HK.out]; rfl, rfl⟩
   | false =>
    go_wp2_with fail
    refine HI1.out.mono ?_
    rintro e w5 ⟨rfl, hw5⟩
    subst hw5
    go_wp2_with fail
    go_ret
    exact ⟨by rw [HK.out]; rfl, rfl⟩
 by_cases c5 : s.toList = [100, 105, 103, 105, 116]
 ·have hc : cls5 s.toList = some (fun b => dig5 b) := by rw [c5]; rfl
  have talnum : (s.toList == [97, 108, 110, 117, 109]) = false := by rw [c5]; decide
  have talpha : (s.toList == [97, 108, 112, 104, 97]) = false := by rw [c5]; decide
  have tlower : (s.toList == [108, 111, 119, 101, 114]) = false := by rw [c5]; decide
  have tupper : (s.toList == [117, 112, 112, 101, 114]) = false := by rw [c5]; decide
  have txdigit : (s.toList == [120, 100, 105, 103, 105, 116]) = false := by rw [c5]; decide
  have tdigit : (s.toList == [100, 105, 103, 105, 116]) = true := by rw [c5]; decide
  have tspace : (s.toList == [115, 112, 97, 99, 101]) = false := by rw [c5]; decide
  have tblank : (s.toList == [98, 108, 97, 110, 107]) = false := by rw [c5]; decide
  have tcntrl : (s.toList == [99, 110, 116, 114, 108]) = false := by rw [c5]; decide
  have tprint : (s.toList == [112, 114, 105, 110, 116]) = false := by rw [c5]; decide
  have tgraph : (s.toList == [103, 114, 97, 112, 104]) = false := by rw [c5]; decide
  have tpunct : (s.toList == [112, 117, 110, 99, 116]) = false := by rw [c5]; decide
  have HK := hide (show r = (d) by
   rw [HR.out]
   unfold memb5
   rw [hc]
   simp only [up5, low5, dig5, HU.out.1, HU.out.2.1, HU.out.2.2, HQ.out.1, HQ.out.2.1, HQ.out.2.2])
  clear hc c5 c0 c1 c2 c3 c4 
  clear HI HR HU HQ
  cases d
  all_goals
   go_wp2_with fail
   go_ret
   exact ⟨by rw [HK.out]; rfl, rfl⟩
 by_cases c6 : s.toList = [115, 112, 97, 99, 101]
 ·have hc : cls5 s.toList = some (fun b => bt5 9 13 b || decide (b = 32)) := by rw [c6]; rfl
  have talnum : (s.toList == [97, 108, 110, 117, 109]) = false := by rw [c6]; decide
  have talpha : (s.toList == [97, 108, 112, 104, 97]) = false := by rw [c6]; decide
  have tlower : (s.toList == [108, 111, 119, 101, 114]) = false := by rw [c6]; decide
  have tupper : (s.toList == [117, 112, 112, 101, 114]) = false := by rw [c6]; decide
  have txdigit : (s.toList == [120, 100, 105, 103, 105, 116]) = false := by rw [c6]; decide
  have tdigit : (s.toList == [100, 105, 103, 105, 116]) = false := by rw [c6]; decide
  have tspace : (s.toList == [115, 112, 97, 99, 101]) = true := by rw [c6]; decide
  have tblank : (s.toList == [98, 108, 97, 110, 107]) = false := by rw [c6]; decide
  have tcntrl : (s.toList == [99, 110, 116, 114, 108]) = false := by rw [c6]; decide
  have tprint : (s.toList == [112, 114, 105, 110, 116]) = false := by rw [c6]; decide
  have tgraph : (s.toList == [103, 114, 97, 112, 104]) = false := by rw [c6]; decide
  have tpunct : (s.toList == [112, 117, 110, 99, 116]) = false := by rw [c6]; decide
  have HI0 := hide (HI.out 9 13 w3)
  generalize hi0 : bt5 9 13 b = i0 at *
  have HK := hide (show r = (i0 || q32) by
   rw [HR.out]
   unfold memb5
   rw [hc]
   simp only [up5, low5, dig5, HU.out.1, HU.out.2.1, HU.out.2.2, HQ.out.1, HQ.out.2.1, HQ.out.2.2, hi0])
  clear hc c6 c0 c1 c2 c3 c4 c5 hi0
  clear HI HR HU HQ
  go_wp2_with fail
  refine HI0.out.mono ?_
  rintro e w4 ⟨rfl, hw4⟩
  subst hw4
  cases i0 <;> cases q32
  all_goals
   go_wp2_with fail
   go_ret
   exact ⟨by rw [HK.out]; rfl, rfl⟩
 by_cases c7 : s.toList = [98, 108, 97, 110, 107]
 ·have hc : cls5 s.toList = some (fun b => decide (b = 9) || decide (b = 32)) := by rw [c7]; rfl
  have talnum : (s.toList == [97, 108, 110, 117, 109]) = false := by rw [c7]; decide
  have talpha : (s.toList == [97, 108, 112, 104, 97]) = false := by rw [c7]; decide
  have tlower : (s.toList == [108, 111, 119, 101, 114]) = false := by rw [c7]; decide
  have tupper : (s.toList == [117, 112, 112, 101, 114]) = false := by rw [c7]; decide
  have txdigit : (s.toList == [120, 100, 105, 103, 105, 116]) = false := by rw [c7]; decide
  have tdigit : (s.toList == [100, 105, 103, 105, 116]) = false := by rw [c7]; decide
  have tspace : (s.toList == [115, 112, 97, 99, 101]) = false := by rw [c7]; decide
  have tblank : (s.toList == [98, 108, 97, 110, 107]) = true := by rw [c7]; decide
  have tcntrl : (s.toList == [99, 110, 116, 114, 108]) = false := by rw [c7]; decide
  have tprint : (s.toList == [112, 114, 105, 110, 116]) = false := by rw [c7]; decide
  have tgraph : (s.toList == [103, 114, 97, 112, 104]) = false := by rw [c7]; decide
  have tpunct : (s.toList == [112, 117, 110, 99, 116]) = false := by rw [c7]; decide
  have HK := hide (show r = (q9 || q32) by
   rw [HR.out]
   unfold memb5
   rw [hc]
   simp only [up5, low5, dig5, HU.out.1, HU.out.2.1, HU.out.2.2, HQ.out.1, HQ.out.2.1, HQ.out.2.2])
  clear hc c7 c0 c1 c2 c3 c4 c5 c6 
  clear HI HR HU HQ
  cases q9 <;> cases q32
  all_goals
   go_wp2_with fail
   go_ret
   exact ⟨by rw [HK.out]; rfl, rfl⟩
 by_cases c8 : s.toList = [99, 110, 116, 114, 108]
 ·have hc : cls5 s.toList = some (fun b => bt5 0 31 b || decide (b = 127)) := by rw [c8]; rfl
  have talnum : (s.toList == [97, 108, 110, 117, 109]) = false := by rw [c8]; decide
  have talpha : (s.toList == [97, 108, 112, 104, 97]) = false := by rw [c8]; decide
  have tlower : (s.toList == [108, 111, 119, 101, 114]) = false := by rw [c8]; decide
  have tupper : (s.toList == [117, 112, 112, 101, 114]) = false := by rw [c8]; decide
  have txdigit : (s.toList == [120, 100, 105, 103, 105, 116]) = false := by rw [c8]; decide
  have tdigit : (s.toList == [100, 105, 103, 105, 116]) = false := by rw [c8]; decide
  have tspace : (s.toList == [115, 112, 97, 99, 101]) = false := by rw [c8]; decide
  have tblank : (s.toList == [98, 108, 97, 110, 107]) = false := by rw [c8]; decide
  have tcntrl : (s.toList == [99, 110, 116, 114, 108]) = true := by rw [c8]; decide
  have tprint : (s.toList == [112, 114, 105, 110, 116]) = false := by rw [c8]; decide
  have tgraph : (s.toList == [103, 114, 97, 112, 104]) = false := by rw [c8]; decide
  have tpunct : (s.toList == [112, 117, 110, 99, 116]) = false := by rw [c8]; decide
  have HI0 := hide (HI.out 0 31 w3)
  generalize hi0 : bt5 0 31 b = i0 at *
  have HK := hide (show r = (i0 || q127) by
   rw [HR.out]
   unfold memb5
   rw [hc]
   simp only [up5, low5, dig5, HU.out.1, HU.out.2.1, HU.out.2.2, HQ.out.1, HQ.out.2.1, HQ.out.2.2, hi0])
  clear hc c8 c0 c1 c2 c3 c4 c5 c6 c7 hi0
  clear HI HR HU HQ
  go_wp2_with fail
  refine HI0.out.mono ?_
  rintro e w4 ⟨rfl, hw4⟩
  subst hw4
  cases i0 <;> cases q127
  all_goals
   go_wp2_with fail
   go_ret
   exact ⟨by rw [HK.out]; rfl, rfl⟩
 by_cases c9 : s.toList = [112, 114, 105, 110, 116]
 ·have hc : cls5 s.toList = some (fun b => bt5 32 126 b) := by rw [c9]; rfl
  have talnum : (s.toList == [97, 108, 110, 117, 109]) = false := by rw [c9]; decide
  have talpha : (s.toList == [97, 108, 112, 104, 97]) = false := by rw [c9]; decide
  have tlower : (s.toList == [108, 111, 119, 101, 114]) = false := by rw [c9]; decide
  have tupper : (s.toList == [117, 112, 112, 101, 114]) = false := by rw [c9]; decide
  have txdigit : (s.toList == [120, 100, 105, 103, 105, 116]) = false := by rw [c9]; decide
  have tdigit : (s.toList == [100, 105, 103, 105, 116]) = false := by rw [c9]; decide
  have tspace : (s.toList == [115, 112, 97, 99, 101]) = false := by rw [c9]; decide
  have tblank : (s.toList == [98, 108, 97, 110, 107]) = false := by rw [c9]; decide
  have tcntrl : (s.toList == [99, 110, 116, 114, 108]) = false := by rw [c9]; decide
  have tprint : (s.toList == [112, 114, 105, 110, 116]) = true := by rw [c9]; decide
  have tgraph : (s.toList == [103, 114, 97, 112, 104]) = false := by rw [c9]; decide
  have tpunct : (s.toList == [112, 117, 110, 99, 116]) = false := by rw [c9]; decide
  have HI0 := hide (HI.out 32 126 w3)
  generalize hi0 : bt5 32 126 b = i0 at *
  have HK := hide (show r = (i0) by
   rw [HR.out]
   unfold memb5
   rw [hc]
   simp only [up5, low5, dig5, HU.out.1, HU.out.2.1, HU.out.2.2, HQ.out.1, HQ.out.2.1, HQ.out.2.2, hi0])
  clear hc c9 c0 c1 c2 c3 c4 c5 c6 c7 c8 hi0
  clear HI HR HU HQ
  go_wp2_with fail
  refine HI0.out.mono ?_
  rintro e w4 ⟨rfl, hw4⟩
  subst hw4
  cases i0
  all_goals
   go_wp2_with fail
   go_ret
   exact ⟨by rw [HK.out]; rfl, rfl⟩
 by_cases c10 : s.toList = [103, 114, 97, 112, 104]
 ·have hc : cls5 s.toList = some (fun b => bt5 33 126 b) := by rw [c10]; rfl
  have talnum : (s.toList == [97, 108, 110, 117, 109]) = false := by rw [c10]; decide
  have talpha : (s.toList == [97, 108, 112, 104, 97]) = false := by rw [c10]; decide
  have tlower : (s.toList == [108, 111, 119, 101, 114]) = false := by rw [c10]; decide
  have tupper : (s.toList == [117, 112, 112, 101, 114]) = false := by rw [c10]; decide
  have txdigit : (s.toList == [120, 100, 105, 103, 105, 116]) = false := by rw [c10]; decide
  have tdigit : (s.toList == [100, 105, 103, 105, 116]) = false := by rw [c10]; decide
  have tspace : (s.toList == [115, 112, 97, 99, 101]) = false := by rw [c10]; decide
  have tblank : (s.toList == [98, 108, 97, 110, 107]) = false := by rw [c10]; decide
  have tcntrl : (s.toList == [99, 110, 116, 114, 108]) = false := by rw [c10]; decide
  have tprint : (s.toList == [112, 114, 105, 110, 116]) = false := by rw [c10]; decide
  have tgraph : (s.toList == [103, 114, 97, 112, 104]) = true := by rw [c10]; decide
  have tpunct : (s.toList == [112, 117, 110, 99, 116]) = false := by rw [c10]; decide
  have HI0 := hide (HI.out 33 126 w3)
  generalize hi0 : bt5 33 126 b = i0 at *
  have HK := hide (show r = (i0) by
   rw [HR.out]
   unfold memb5
   rw [hc]
   simp only [up5, low5, dig5, HU.out.1, HU.out.2.1, HU.out.2.2, HQ.out.1, HQ.out.2.1, HQ.out.2.2, hi0])
  clear hc c10 c0 c1 c2 c3 c4 c5 c6 c7 c8 c9 hi0
  clear HI HR HU HQ
  go_wp2_with fail
  refine HI0.out.mono ?_
  rintro e w4 ⟨rfl, hw4⟩
  subst hw4
  cases i0
  all_goals
   go_wp2_with fail
   go_ret
   exact ⟨by rw [HK.out]; rfl, rfl⟩
 by_cases c11 : s.toList = [112, 117, 110, 99, 116]
 ·have hc : cls5 s.toList = some (fun b => bt5 33 126 b && !up5 b && !low5 b && !dig5 b) := by rw [c11]; rfl
  have talnum : (s.toList == [97, 108, 110, 117, 109]) = false := by rw [c11]; decide
  have talpha : (s.toList == [97, 108, 112, 104, 97]) = false := by rw [c11]; decide
  have tlower : (s.toList == [108, 111, 119, 101, 114]) = false := by rw [c11]; decide
  have tupper : (s.toList == [117, 112, 112, 101, 114]) = false := by rw [c11]; decide
  have txdigit : (s.toList == [120, 100, 105, 103, 105, 116]) = false := by rw [c11]; decide
  have tdigit : (s.toList == [100, 105, 103, 105, 116]) = false := by rw [c11]; decide
  have tspace : (s.toList == [115, 112, 97, 99, 101]) = false := by rw [c11]; decide
  have tblank : (s.toList == [98, 108, 97, 110, 107]) = false := by rw [c11]; decide
  have tcntrl : (s.toList == [99, 110, 116, 114, 108]) = false := by rw [c11]; decide
  have tprint : (s.toList == [112, 114, 105, 110, 116]) = false := by rw [c11]; decide
  have tgraph : (s.toList == [103, 114, 97, 112, 104]) = false := by rw [c11]; decide
  have tpunct : (s.toList == [112, 117, 110, 99, 116]) = true := by rw [c11]; decide
  have HI0 := hide (HI.out 33 126 w3)
  generalize hi0 : bt5 33 126 b = i0 at *
  have HK := hide (show r = (i0 && !u && !l && !d) by
   rw [HR.out]
   unfold memb5
   rw [hc]
   simp only [up5, low5, dig5, HU.out.1, HU.out.2.1, HU.out.2.2, HQ.out.1, HQ.out.2.1, HQ.out.2.2, hi0])
  clear hc c11 c0 c1 c2 c3 c4 c5 c6 c7 c8 c9 c10 hi0
  clear HI HR HU HQ
  go_wp2_with fail
  refine HI0.out.mono ?_
  rintro e w4 ⟨rfl, hw4⟩
  subst hw4
  cases i0 <;> cases u <;> cases l <;> cases d
  all_goals
   go_wp2_with fail
   go_ret
   exact ⟨by rw [HK.out]; rfl, rfl⟩
 have talnum : (s.toList == [97, 108, 110, 117, 109]) = false := beq_false_of_ne c0
 have talpha : (s.toList == [97, 108, 112, 104, 97]) = false := beq_false_of_ne c1
 have tlower : (s.toList == [108, 111, 119, 101, 114]) = false := beq_false_of_ne c2
 have tupper : (s.toList == [117, 112, 112, 101, 114]) = false := beq_false_of_ne c3
 have txdigit : (s.toList == [120, 100, 105, 103, 105, 116]) = false := beq_false_of_ne c4
 have tdigit : (s.toList == [100, 105, 103, 105, 116]) = false := beq_false_of_ne c5
 have tspace : (s.toList == [115, 112, 97, 99, 101]) = false := beq_false_of_ne c6
 have tblank : (s.toList == [98, 108, 97, 110, 107]) = false := beq_false_of_ne c7
 have tcntrl : (s.toList == [99, 110, 116, 114, 108]) = false := beq_false_of_ne c8
 have tprint : (s.toList == [112, 114, 105, 110, 116]) = false := beq_false_of_ne c9
 have tgraph : (s.toList == [103, 114, 97, 112, 104]) = false := beq_false_of_ne c10
 have tpunct : (s.toList == [112, 117, 110, 99, 116]) = false := beq_false_of_ne c11
 have HK := hide (show r = false by
  rw [HR.out]
  unfold memb5 cls5
  rw [if_neg c0, if_neg c1, if_neg c2, if_neg c3, if_neg c4, if_neg c5, if_neg c6, if_neg c7, if_neg c8, if_neg c9, if_neg c10, if_neg c11])
 clear HI HR HU HQ c0 c1 c2 c3 c4 c5 c6 c7 c8 c9 c10 c11
 go_wp2_with fail
 go_ret
 exact ⟨by rw [HK.out]; rfl, rfl⟩
end Go.Proofs.YtfehmfifjidjjaaGreatDoor
