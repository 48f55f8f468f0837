/- Classes: Named classes of bytes; trawlref02. (Printed by gen_classes.py.)
Classes2: trawlref02.Named, Other, Fold. (Printed by gen_classes2.py.)
Classes3: class.Other, Fold; octet.Has, Of, Join, Meet at a call. (Printed by gen_classes3.py.) -/
import Derived.Test.YtpkcklpjbeginaaGreatDoorRefSets2
set_option linter.unusedSimpArgs false
set_option linter.unusedVariables false
set_option linter.unnecessarySimpa false

/-! ## Classes -/
namespace Go.Proofs.YtpkcklpjbeginaaGreatDoor
open Go.RowKit

def bt5 (lo hi b : Nat) : Bool := decide (lo ≤ b ∧ b ≤ hi)
def up5 (b : Nat) : Bool := bt5 65 90 b
def low5 (b : Nat) : Bool := bt5 97 122 b
def dig5 (b : Nat) : Bool := bt5 48 57 b
/-- The class of a name. -/
def cls5 (s : List UInt8) : Option (Nat → Bool) :=
 if s = [97, 108, 110, 117, 109] then some (fun b => up5 b || low5 b || dig5 b)
 else if s = [97, 108, 112, 104, 97] then some (fun b => up5 b || low5 b)
 else if s = [108, 111, 119, 101, 114] then some (fun b => low5 b)
 else if s = [117, 112, 112, 101, 114] then some (fun b => up5 b)
 else if s = [120, 100, 105, 103, 105, 116] then some (fun b => dig5 b || bt5 65 70 b || bt5 97 102 b)
 else if s = [100, 105, 103, 105, 116] then some (fun b => dig5 b)
 else if s = [115, 112, 97, 99, 101] then some (fun b => bt5 9 13 b || decide (b = 32))
 else if s = [98, 108, 97, 110, 107] then some (fun b => decide (b = 9) || decide (b = 32))
 else if s = [99, 110, 116, 114, 108] then some (fun b => bt5 0 31 b || decide (b = 127))
 else if s = [112, 114, 105, 110, 116] then some (fun b => bt5 32 126 b)
 else if s = [103, 114, 97, 112, 104] then some (fun b => bt5 33 126 b)
 else if s = [112, 117, 110, 99, 116] then some (fun b => bt5 33 126 b && !up5 b && !low5 b && !dig5 b)
 else none
theorem in5_any (b lo hi : Nat) (w : World) : Calls Tryz.prog 174 #[.int .i64 (b : Int), .int .i64 (lo : Int), .int .i64 (hi : Int)] w fun e w' => e = .returned (.bool (bt5 lo hi b)) ∧ w' = w := by
 unfold bt5
 by_cases h1 : lo ≤ b
 ·have e1 : decide ((lo : Int) ≤ (b : Int)) = true := decide_eq_true (by omega)
  by_cases h2 : b ≤ hi
  ·have e2 : decide ((b : Int) ≤ (hi : Int)) = true := decide_eq_true (by omega)
   go_enter Tryz.func174, Tryz.ntmps174
   go_wp2_with fail
   go_ret
   exact ⟨by rw [decide_eq_true ⟨h1, h2⟩]; rfl, rfl⟩
  ·have e2 : decide ((b : Int) ≤ (hi : Int)) = false := decide_eq_false (by omega)
   go_enter Tryz.func174, Tryz.ntmps174
   go_wp2_with fail
   go_ret
   exact ⟨by rw [decide_eq_false (fun h => h2 h.2)]; rfl, rfl⟩
 ·have e1 : decide ((lo : Int) ≤ (b : Int)) = false := decide_eq_false (by omega)
  go_enter Tryz.func174, Tryz.ntmps174
  go_wp2_with fail
  go_ret
  exact ⟨by rw [decide_eq_false (fun h => h1 h.1)]; rfl, rfl⟩
def memb5 (s : ByteArray) (b : Nat) : Bool := match cls5 s.toList with | some f => f b | none => false
set_option maxRecDepth 100000 in
set_option maxHeartbeats 4000000 in
theorem member_any (s : ByteArray) (b : Nat) (hb : b < 256) (w : World) : Calls Tryz.prog 156 #[.string s, .int .i64 (b : Int)] w fun e w' => e = .returned (.bool (memb5 s b)) ∧ w' = w := by
 have HI := hide (fun (lo hi : Nat) (y : World) => in5_any b lo hi y)
 obtain ⟨r, hr⟩ : ∃ r, r = memb5 s b := ⟨_, rfl⟩
 rw [← hr]
 have HR := hide hr
 clear hr
 have hlb : (b : Int) < 256 := by omega
 go_enter Tryz.func156, Tryz.ntmps156
 go_wp2_with fail
 refine (HI.out 65 90 w).mono ?_
 rintro e w1 ⟨rfl, hw1⟩
 subst hw1
 go_wp2_with fail
 refine (HI.out 97 122 w1).mono ?_
 rintro e w2 ⟨rfl, hw2⟩
 subst hw2
 go_wp2_with fail
 refine (HI.out 48 57 w2).mono ?_
 rintro e w3 ⟨rfl, hw3⟩
 subst hw3
 generalize hu : bt5 65 90 b = u at *
 generalize hl : bt5 97 122 b = l at *
 generalize hd : bt5 48 57 b = d at *
 have HU := hide (And.intro hu (And.intro hl hd))
 clear hu hl hd
 have h9 : ((b : Int) == 9) = decide (b = 9) := by by_cases h : b = 9 <;> simp [h]; omega
 have h32 : ((b : Int) == 32) = decide (b = 32) := by by_cases h : b = 32 <;> simp [h]; omega
 have h127 : ((b : Int) == 127) = decide (b = 127) := by by_cases h : b = 127 <;> simp [h]; omega
 generalize hq9 : decide (b = 9) = q9 at *
 generalize hq32 : decide (b = 32) = q32 at *
 generalize hq127 : decide (b = 127) = q127 at *
 have HQ := hide (And.intro hq9 (And.intro hq32 hq127))
 clear hq9 hq32 hq127
 by_cases c0 : s.toList = [97, 108, 110, 117, 109]
 ·have hc : cls5 s.toList = some (fun b => up5 b || low5 b || dig5 b) := by rw [c0]; rfl
  have talnum : (s.toList == [97, 108, 110, 117, 109]) = true := by rw [c0]; decide
  have talpha : (s.toList == [97, 108, 112, 104, 97]) = false := by rw [c0]; decide
  have tlower : (s.toList == [108, 111, 119, 101, 114]) = false := by rw [c0]; decide
  have tupper : (s.toList == [117, 112, 112, 101, 114]) = false := by rw [c0]; decide
  have txdigit : (s.toList == [120, 100, 105, 103, 105, 116]) = false := by rw [c0]; decide
  have tdigit : (s.toList == [100, 105, 103, 105, 116]) = false := by rw [c0]; decide
  have tspace : (s.toList == [115, 112, 97, 99, 101]) = false := by rw [c0]; decide
  have tblank : (s.toList == [98, 108, 97, 110, 107]) = false := by rw [c0]; decide
  have tcntrl : (s.toList == [99, 110, 116, 114, 108]) = false := by rw [c0]; decide
  have tprint : (s.toList == [112, 114, 105, 110, 116]) = false := by rw [c0]; decide
  have tgraph : (s.toList == [103, 114, 97, 112, 104]) = false := by rw [c0]; decide
  have tpunct : (s.toList == [112, 117, 110, 99, 116]) = false := by rw [c0]; decide
  have HK := hide (show r = (u || l || d) by
   rw [HR.out]
   unfold memb5
   rw [hc]
   simp only [up5, low5, dig5, HU.out.1, HU.out.2.1, HU.out.2.2, HQ.out.1, HQ.out.2.1, HQ.out.2.2])
  clear hc c0  
  clear HI HR HU HQ
  cases u <;> cases l <;> cases d
  all_goals
   go_wp2_with fail
   go_ret
   exact ⟨by rw [HK.out]; rfl, rfl⟩
 by_cases c1 : s.toList = [97, 108, 112, 104, 97]
 ·have hc : cls5 s.toList = some (fun b => up5 b || low5 b) := by rw [c1]; rfl
  have talnum : (s.toList == [97, 108, 110, 117, 109]) = false := by rw [c1]; decide
  have talpha : (s.toList == [97, 108, 112, 104, 97]) = true := by rw [c1]; decide
  have tlower : (s.toList == [108, 111, 119, 101, 114]) = false := by rw [c1]; decide
  have tupper : (s.toList == [117, 112, 112, 101, 114]) = false := by rw [c1]; decide
  have txdigit : (s.toList == [120, 100, 105, 103, 105, 116]) = false := by rw [c1]; decide
  have tdigit : (s.toList == [100, 105, 103, 105, 116]) = false := by rw [c1]; decide
  have tspace : (s.toList == [115, 112, 97, 99, 101]) = false := by rw [c1]; decide
  have tblank : (s.toList == [98, 108, 97, 110, 107]) = false := by rw [c1]; decide
  have tcntrl : (s.toList == [99, 110, 116, 114, 108]) = false := by rw [c1]; decide
  have tprint : (s.toList == [112, 114, 105, 110, 116]) = false := by rw [c1]; decide
  have tgraph : (s.toList == [103, 114, 97, 112, 104]) = false := by rw [c1]; decide
  have tpunct : (s.toList == [112, 117, 110, 99, 116]) = false := by rw [c1]; decide
  have HK := hide (show r = (u || l) by
   rw [HR.out]
   unfold memb5
   rw [hc]
   simp only [up5, low5, dig5, HU.out.1, HU.out.2.1, HU.out.2.2, HQ.out.1, HQ.out.2.1, HQ.out.2.2])
  clear hc c1 c0 
  clear HI HR HU HQ
  cases u <;> cases l
  all_goals
   go_wp2_with fail
   go_ret
   exact ⟨by rw [HK.out]; rfl, rfl⟩
 by_cases c2 : s.toList = [108, 111, 119, 101, 114]
 ·have hc : cls5 s.toList = some (fun b => low5 b) := by rw [c2]; rfl
  have talnum : (s.toList == [97, 108, 110, 117, 109]) = false := by rw [c2]; decide
  have talpha : (s.toList == [97, 108, 112, 104, 97]) = false := by rw [c2]; decide
  have tlower : (s.toList == [108, 111, 119, 101, 114]) = true := by rw [c2]; decide
  have tupper : (s.toList == [117, 112, 112, 101, 114]) = false := by rw [c2]; decide
  have txdigit : (s.toList == [120, 100, 105, 103, 105, 116]) = false := by rw [c2]; decide
  have tdigit : (s.toList == [100, 105, 103, 105, 116]) = false := by rw [c2]; decide
  have tspace : (s.toList == [115, 112, 97, 99, 101]) = false := by rw [c2]; decide
  have tblank : (s.toList == [98, 108, 97, 110, 107]) = false := by rw [c2]; decide
  have tcntrl : (s.toList == [99, 110, 116, 114, 108]) = false := by rw [c2]; decide
  have tprint : (s.toList == [112, 114, 105, 110, 116]) = false := by rw [c2]; decide
  have tgraph : (s.toList == [103, 114, 97, 112, 104]) = false := by rw [c2]; decide
  have tpunct : (s.toList == [112, 117, 110, 99, 116]) = false := by rw [c2]; decide
  have HK := hide (show r = (l) by
   rw [HR.out]
   unfold memb5
   rw [hc]
   simp only [up5, low5, dig5, HU.out.1, HU.out.2.1, HU.out.2.2, HQ.out.1, HQ.out.2.1, HQ.out.2.2])
  clear hc c2 c0 c1 
  clear HI HR HU HQ
  cases l
  all_goals
   go_wp2_with fail
   go_ret
   exact ⟨by rw [HK.out]; rfl, rfl⟩
 by_cases c3 : s.toList = [117, 112, 112, 101, 114]
 ·have hc : cls5 s.toList = some (fun b => up5 b) := by rw [c3]; rfl
  have talnum : (s.toList == [97, 108, 110, 117, 109]) = false := by rw [c3]; decide
  have talpha : (s.toList == [97, 108, 112, 104, 97]) = false := by rw [c3]; decide
  have tlower : (s.toList == [108, 111, 119, 101, 114]) = false := by rw [c3]; decide
  have tupper : (s.toList == [117, 112, 112, 101, 114]) = true := by rw [c3]; decide
  have txdigit : (s.toList == [120, 100, 105, 103, 105, 116]) = false := by rw [c3]; decide
  have tdigit : (s.toList == [100, 105, 103, 105, 116]) = false := by rw [c3]; decide
  have tspace : (s.toList == [115, 112, 97, 99, 101]) = false := by rw [c3]; decide
  have tblank : (s.toList == [98, 108, 97, 110, 107]) = false := by rw [c3]; decide
  have tcntrl : (s.toList == [99, 110, 116, 114, 108]) = false := by rw [c3]; decide
  have tprint : (s.toList == [112, 114, 105, 110, 116]) = false := by rw [c3]; decide
  have tgraph : (s.toList == [103, 114, 97, 112, 104]) = false := by rw [c3]; decide
  have tpunct : (s.toList == [112, 117, 110, 99, 116]) = false := by rw [c3]; decide
  have HK := hide (show r = (u) by
   rw [HR.out]
   unfold memb5
   rw [hc]
   simp only [up5, low5, dig5, HU.out.1, HU.out.2.1, HU.out.2.2, HQ.out.1, HQ.out.2.1, HQ.out.2.2])
  clear hc c3 c0 c1 c2 
  clear HI HR HU HQ
  cases u
  all_goals
   go_wp2_with fail
   go_ret
   exact ⟨by rw [HK.out]; rfl, rfl⟩
 by_cases c4 : s.toList = [120, 100, 105, 103, 105, 116]
 ·have hc : cls5 s.toList = some (fun b => dig5 b || bt5 65 70 b || bt5 97 102 b) := by rw [c4]; rfl
  have talnum : (s.toList == [97, 108, 110, 117, 109]) = false := by rw [c4]; decide
  have talpha : (s.toList == [97, 108, 112, 104, 97]) = false := by rw [c4]; decide
  have tlower : (s.toList == [108, 111, 119, 101, 114]) = false := by rw [c4]; decide
  have tupper : (s.toList == [117, 112, 112, 101, 114]) = false := by rw [c4]; decide
  have txdigit : (s.toList == [120, 100, 105, 103, 105, 116]) = true := by rw [c4]; decide
  have tdigit : (s.toList == [100, 105, 103, 105, 116]) = false := by rw [c4]; decide
  have tspace : (s.toList == [115, 112, 97, 99, 101]) = false := by rw [c4]; decide
  have tblank : (s.toList == [98, 108, 97, 110, 107]) = false := by rw [c4]; decide
  have tcntrl : (s.toList == [99, 110, 116, 114, 108]) = false := by rw [c4]; decide
  have tprint : (s.toList == [112, 114, 105, 110, 116]) = false := by rw [c4]; decide
  have tgraph : (s.toList == [103, 114, 97, 112, 104]) = false := by rw [c4]; decide
  have tpunct : (s.toList == [112, 117, 110, 99, 116]) = false := by rw [c4]; decide
  have HI0 := hide (HI.out 65 70 w3)
  generalize hi0 : bt5 65 70 b = i0 at *
  have HI1 := hide (HI.out 97 102 w3)
  generalize hi1 : bt5 97 102 b = i1 at *
  have HK := hide (show r = (d || i0 || i1) by
   rw [HR.out]
   unfold memb5
   rw [hc]
   simp only [up5, low5, dig5, HU.out.1, HU.out.2.1, HU.out.2.2, HQ.out.1, HQ.out.2.1, HQ.out.2.2, hi0, hi1])
  clear hc c4 c0 c1 c2 c3 hi0 hi1
  clear HI HR HU HQ
  cases d with
  | true =>
   go_wp2_with fail
   go_ret
   exact ⟨by rw [HK.out]; rfl, rfl⟩
  | false =>
   go_wp2_with fail
   refine HI0.out.mono ?_
   rintro e w4 ⟨rfl, hw4⟩
   subst hw4
   cases i0 with
   | true =>
    go_wp2_with fail
    go_ret
    exact ⟨by rw [HK.out]; rfl, rfl⟩
   | false =>
    go_wp2_with fail
    refine HI1.out.mono ?_
    rintro e w5 ⟨rfl, hw5⟩
    subst hw5
    go_wp2_with fail
    go_ret
    exact ⟨by rw [HK.out]; rfl, rfl⟩
 by_cases c5 : s.toList = [100, 105, 103, 105, 116]
 ·have hc : cls5 s.toList = some (fun b => dig5 b) := by rw [c5]; rfl
  have talnum : (s.toList == [97, 108, 110, 117, 109]) = false := by rw [c5]; decide
  have talpha : (s.toList == [97, 108, 112, 104, 97]) = false := by rw [c5]; decide
  have tlower : (s.toList == [108, 111, 119, 101, 114]) = false := by rw [c5]; decide
  have tupper : (s.toList == [117, 112, 112, 101, 114]) = false := by rw [c5]; decide
  have txdigit : (s.toList == [120, 100, 105, 103, 105, 116]) = false := by rw [c5]; decide
  have tdigit : (s.toList == [100, 105, 103, 105, 116]) = true := by rw [c5]; decide
  have tspace : (s.toList == [115, 112, 97, 99, 101]) = false := by rw [c5]; decide
  have tblank : (s.toList == [98, 108, 97, 110, 107]) = false := by rw [c5]; decide
  have tcntrl : (s.toList == [99, 110, 116, 114, 108]) = false := by rw [c5]; decide
  have tprint : (s.toList == [112, 114, 105, 110, 116]) = false := by rw [c5]; decide
  have tgraph : (s.toList == [103, 114, 97, 112, 104]) = false := by rw [c5]; decide
  have tpunct : (s.toList == [112, 117, 110, 99, 116]) = false := by rw [c5]; decide
  have HK := hide (show r = (d) by
   rw [HR.out]
   unfold memb5
   rw [hc]
   simp only [up5, low5, dig5, HU.out.1, HU.out.2.1, HU.out.2.2, HQ.out.1, HQ.out.2.1, HQ.out.2.2])
  clear hc c5 c0 c1 c2 c3 c4 
  clear HI HR HU HQ
  cases d
  all_goals
   go_wp2_with fail
   go_ret
   exact ⟨by rw [HK.out]; rfl, rfl⟩
 by_cases c6 : s.toList = [115, 112, 97, 99, 101]
 ·have hc : cls5 s.toList = some (fun b => bt5 9 13 b || decide (b = 32)) := by rw [c6]; rfl
  have talnum : (s.toList == [97, 108, 110, 117, 109]) = false := by rw [c6]; decide
  have talpha : (s.toList == [97, 108, 112, 104, 97]) = false := by rw [c6]; decide
  have tlower : (s.toList == [108, 111, 119, 101, 114]) = false := by rw [c6]; decide
  have tupper : (s.toList == [117, 112, 112, 101, 114]) = false := by rw [c6]; decide
  have txdigit : (s.toList == [120, 100, 105, 103, 105, 116]) = false := by rw [c6]; decide
  have tdigit : (s.toList == [100, 105, 103, 105, 116]) = false := by rw [c6]; decide
  have tspace : (s.toList == [115, 112, 97, 99, 101]) = true := by rw [c6]; decide
  have tblank : (s.toList == [98, 108, 97, 110, 107]) = false := by rw [c6]; decide
  have tcntrl : (s.toList == [99, 110, 116, 114, 108]) = false := by rw [c6]; decide
  have tprint : (s.toList == [112, 114, 105, 110, 116]) = false := by rw [c6]; decide
  have tgraph : (s.toList == [103, 114, 97, 112, 104]) = false := by rw [c6]; decide
  have tpunct : (s.toList == [112, 117, 110, 99, 116]) = false := by rw [c6]; decide
  have HI0 := hide (HI.out 9 13 w3)
  generalize hi0 : bt5 9 13 b = i0 at *
  have HK := hide (show r = (i0 || q32) by
   rw [HR.out]
   unfold memb5
   rw [hc]
   simp only [up5, low5, dig5, HU.out.1, HU.out.2.1, HU.out.2.2, HQ.out.1, HQ.out.2.1, HQ.out.2.2, hi0])
  clear hc c6 c0 c1 c2 c3 c4 c5 hi0
  clear HI HR HU HQ
  go_wp2_with fail
  refine HI0.out.mono ?_
  rintro e w4 ⟨rfl, hw4⟩
  subst hw4
  cases i0 <;> cases q32
  all_goals
   go_wp2_with fail
   go_ret
   exact ⟨by rw [HK.out]; rfl, rfl⟩
 by_cases c7 : s.toList = [98, 108, 97, 110, 107]
 ·have hc : cls5 s.toList = some (fun b => decide (b = 9) || decide (b = 32)) := by rw [c7]; rfl
  have talnum : (s.toList == [97, 108, 110, 117, 109]) = false := by rw [c7]; decide
  have talpha : (s.toList == [97, 108, 112, 104, 97]) = false := by rw [c7]; decide
  have tlower : (s.toList == [108, 111, 119, 101, 114]) = false := by rw [c7]; decide
  have tupper : (s.toList == [117, 112, 112, 101, 114]) = false := by rw [c7]; decide
  have txdigit : (s.toList == [120, 100, 105, 103, 105, 116]) = false := by rw [c7]; decide
  have tdigit : (s.toList == [100, 105, 103, 105, 116]) = false := by rw [c7]; decide
  have tspace : (s.toList == [115, 112, 97, 99, 101]) = false := by rw [c7]; decide
  have tblank : (s.toList == [98, 108, 97, 110, 107]) = true := by rw [c7]; decide
  have tcntrl : (s.toList == [99, 110, 116, 114, 108]) = false := by rw [c7]; decide
  have tprint : (s.toList == [112, 114, 105, 110, 116]) = false := by rw [c7]; decide
  have tgraph : (s.toList == [103, 114, 97, 112, 104]) = false := by rw [c7]; decide
  have tpunct : (s.toList == [112, 117, 110, 99, 116]) = false := by rw [c7]; decide
  have HK := hide (show r = (q9 || q32) by
   rw [HR.out]
   unfold memb5
   rw [hc]
   simp only [up5, low5, dig5, HU.out.1, HU.out.2.1, HU.out.2.2, HQ.out.1, HQ.out.2.1, HQ.out.2.2])
  clear hc c7 c0 c1 c2 c3 c4 c5 c6 
  clear HI HR HU HQ
  cases q9 <;> cases q32
  all_goals
   go_wp2_with fail
   go_ret
   exact ⟨by rw [HK.out]; rfl, rfl⟩
 by_cases c8 : s.toList = [99, 110, 116, 114, 108]
 ·have hc : cls5 s.toList = some (fun b => bt5 0 31 b || decide (b = 127)) := by rw [c8]; rfl
  have talnum : (s.toList == [97, 108, 110, 117, 109]) = false := by rw [c8]; decide
  have talpha : (s.toList == [97, 108, 112, 104, 97]) = false := by rw [c8]; decide
  have tlower : (s.toList == [108, 111, 119, 101, 114]) = false := by rw [c8]; decide
  have tupper : (s.toList == [117, 112, 112, 101, 114]) = false := by rw [c8]; decide
  have txdigit : (s.toList == [120, 100, 105, 103, 105, 116]) = false := by rw [c8]; decide
  have tdigit : (s.toList == [100, 105, 103, 105, 116]) = false := by rw [c8]; decide
  have tspace : (s.toList == [115, 112, 97, 99, 101]) = false := by rw [c8]; decide
  have tblank : (s.toList == [98, 108, 97, 110, 107]) = false := by rw [c8]; decide
  have tcntrl : (s.toList == [99, 110, 116, 114, 108]) = true := by rw [c8]; decide
  have tprint : (s.toList == [112, 114, 105, 110, 116]) = false := by rw [c8]; decide
  have tgraph : (s.toList == [103, 114, 97, 112, 104]) = false := by rw [c8]; decide
  have tpunct : (s.toList == [112, 117, 110, 99, 116]) = false := by rw [c8]; decide
  have HI0 := hide (HI.out 0 31 w3)
  generalize hi0 : bt5 0 31 b = i0 at *
  have HK := hide (show r = (i0 || q127) by
   rw [HR.out]
   unfold memb5
   rw [hc]
   simp only [up5, low5, dig5, HU.out.1, HU.out.2.1, HU.out.2.2, HQ.out.1, HQ.out.2.1, HQ.out.2.2, hi0])
  clear hc c8 c0 c1 c2 c3 c4 c5 c6 c7 hi0
  clear HI HR HU HQ
  go_wp2_with fail
  refine HI0.out.mono ?_
  rintro e w4 ⟨rfl, hw4⟩
  subst hw4
  cases i0 <;> cases q127
  all_goals
   go_wp2_with fail
   go_ret
   exact ⟨by rw [HK.out]; rfl, rfl⟩
 by_cases c9 : s.toList = [112, 114, 105, 110, 116]
 ·have hc : cls5 s.toList = some (fun b => bt5 32 126 b) := by rw [c9]; rfl
  have talnum : (s.toList == [97, 108, 110, 117, 109]) = false := by rw [c9]; decide
  have talpha : (s.toList == [97, 108, 112, 104, 97]) = false := by rw [c9]; decide
  have tlower : (s.toList == [108, 111, 119, 101, 114]) = false := by rw [c9]; decide
  have tupper : (s.toList == [117, 112, 112, 101, 114]) = false := by rw [c9]; decide
  have txdigit : (s.toList == [120, 100, 105, 103, 105, 116]) = false := by rw [c9]; decide
  have tdigit : (s.toList == [100, 105, 103, 105, 116]) = false := by rw [c9]; decide
  have tspace : (s.toList == [115, 112, 97, 99, 101]) = false := by rw [c9]; decide
  have tblank : (s.toList == [98, 108, 97, 110, 107]) = false := by rw [c9]; decide
  have tcntrl : (s.toList == [99, 110, 116, 114, 108]) = false := by rw [c9]; decide
  have tprint : (s.toList == [112, 114, 105, 110, 116]) = true := by rw [c9]; decide
  have tgraph : (s.toList == [103, 114, 97, 112, 104]) = false := by rw [c9]; decide
  have tpunct : (s.toList == [112, 117, 110, 99, 116]) = false := by rw [c9]; decide
  have HI0 := hide (HI.out 32 126 w3)
  generalize hi0 : bt5 32 126 b = i0 at *
  have HK := hide (show r = (i0) by
   rw [HR.out]
   unfold memb5
   rw [hc]
   simp only [up5, low5, dig5, HU.out.1, HU.out.2.1, HU.out.2.2, HQ.out.1, HQ.out.2.1, HQ.out.2.2, hi0])
  clear hc c9 c0 c1 c2 c3 c4 c5 c6 c7 c8 hi0
  clear HI HR HU HQ
  go_wp2_with fail
  refine HI0.out.mono ?_
  rintro e w4 ⟨rfl, hw4⟩
  subst hw4
  cases i0
  all_goals
   go_wp2_with fail
   go_ret
   exact ⟨by rw [HK.out]; rfl, rfl⟩
 by_cases c10 : s.toList = [103, 114, 97, 112, 104]
 ·have hc : cls5 s.toList = some (fun b => bt5 33 126 b) := by rw [c10]; rfl
  have talnum : (s.toList == [97, 108, 110, 117, 109]) = false := by rw [c10]; decide
  have talpha : (s.toList == [97, 108, 112, 104, 97]) = false := by rw [c10]; decide
  have tlower : (s.toList == [108, 111, 119, 101, 114]) = false := by rw [c10]; decide
  have tupper : (s.toList == [117, 112, 112, 101, 114]) = false := by rw [c10]; decide
  have txdigit : (s.toList == [120, 100, 105, 103, 105, 116]) = false := by rw [c10]; decide
  have tdigit : (s.toList == [100, 105, 103, 105, 116]) = false := by rw [c10]; decide
  have tspace : (s.toList == [115, 112, 97, 99, 101]) = false := by rw [c10]; decide
  have tblank : (s.toList == [98, 108, 97, 110, 107]) = false := by rw [c10]; decide
  have tcntrl : (s.toList == [99, 110, 116, 114, 108]) = false := by rw [c10]; decide
  have tprint : (s.toList == [112, 114, 105, 110, 116]) = false := by rw [c10]; decide
  have tgraph : (s.toList == [103, 114, 97, 112, 104]) = true := by rw [c10]; decide
  have tpunct : (s.toList == [112, 117, 110, 99, 116]) = false := by rw [c10]; decide
  have HI0 := hide (HI.out 33 126 w3)
  generalize hi0 : bt5 33 126 b = i0 at *
  have HK := hide (show r = (i0) by
   rw [HR.out]
   unfold memb5
   rw [hc]
   simp only [up5, low5, dig5, HU.out.1, HU.out.2.1, HU.out.2.2, HQ.out.1, HQ.out.2.1, HQ.out.2.2, hi0])
  clear hc c10 c0 c1 c2 c3 c4 c5 c6 c7 c8 c9 hi0
  clear HI HR HU HQ
  go_wp2_with fail
  refine HI0.out.mono ?_
  rintro e w4 ⟨rfl, hw4⟩
  subst hw4
  cases i0
  all_goals
   go_wp2_with fail
   go_ret
   exact ⟨by rw [HK.out]; rfl, rfl⟩
 by_cases c11 : s.toList = [112, 117, 110, 99, 116]
 ·have hc : cls5 s.toList = some (fun b => bt5 33 126 b && !up5 b && !low5 b && !dig5 b) := by rw [c11]; rfl
  have talnum : (s.toList == [97, 108, 110, 117, 109]) = false := by rw [c11]; decide
  have talpha : (s.toList == [97, 108, 112, 104, 97]) = false := by rw [c11]; decide
  have tlower : (s.toList == [108, 111, 119, 101, 114]) = false := by rw [c11]; decide
  have tupper : (s.toList == [117, 112, 112, 101, 114]) = false := by rw [c11]; decide
  have txdigit : (s.toList == [120, 100, 105, 103, 105, 116]) = false := by rw [c11]; decide
  have tdigit : (s.toList == [100, 105, 103, 105, 116]) = false := by rw [c11]; decide
  have tspace : (s.toList == [115, 112, 97, 99, 101]) = false := by rw [c11]; decide
  have tblank : (s.toList == [98, 108, 97, 110, 107]) = false := by rw [c11]; decide
  have tcntrl : (s.toList == [99, 110, 116, 114, 108]) = false := by rw [c11]; decide
  have tprint : (s.toList == [112, 114, 105, 110, 116]) = false := by rw [c11]; decide
  have tgraph : (s.toList == [103, 114, 97, 112, 104]) = false := by rw [c11]; decide
  have tpunct : (s.toList == [112, 117, 110, 99, 116]) = true := by rw [c11]; decide
  have HI0 := hide (HI.out 33 126 w3)
  generalize hi0 : bt5 33 126 b = i0 at *
  have HK := hide (show r = (i0 && !u && !l && !d) by
   rw [HR.out]
   unfold memb5
   rw [hc]
   simp only [up5, low5, dig5, HU.out.1, HU.out.2.1, HU.out.2.2, HQ.out.1, HQ.out.2.1, HQ.out.2.2, hi0])
  clear hc c11 c0 c1 c2 c3 c4 c5 c6 c7 c8 c9 c10 hi0
  clear HI HR HU HQ
  go_wp2_with fail
  refine HI0.out.mono ?_
  rintro e w4 ⟨rfl, hw4⟩
  subst hw4
  cases i0 <;> cases u <;> cases l <;> cases d
  all_goals
   go_wp2_with fail
   go_ret
   exact ⟨by rw [HK.out]; rfl, rfl⟩
 have talnum : (s.toList == [97, 108, 110, 117, 109]) = false := beq_false_of_ne c0
 have talpha : (s.toList == [97, 108, 112, 104, 97]) = false := beq_false_of_ne c1
 have tlower : (s.toList == [108, 111, 119, 101, 114]) = false := beq_false_of_ne c2
 have tupper : (s.toList == [117, 112, 112, 101, 114]) = false := beq_false_of_ne c3
 have txdigit : (s.toList == [120, 100, 105, 103, 105, 116]) = false := beq_false_of_ne c4
 have tdigit : (s.toList == [100, 105, 103, 105, 116]) = false := beq_false_of_ne c5
 have tspace : (s.toList == [115, 112, 97, 99, 101]) = false := beq_false_of_ne c6
 have tblank : (s.toList == [98, 108, 97, 110, 107]) = false := beq_false_of_ne c7
 have tcntrl : (s.toList == [99, 110, 116, 114, 108]) = false := beq_false_of_ne c8
 have tprint : (s.toList == [112, 114, 105, 110, 116]) = false := beq_false_of_ne c9
 have tgraph : (s.toList == [103, 114, 97, 112, 104]) = false := beq_false_of_ne c10
 have tpunct : (s.toList == [112, 117, 110, 99, 116]) = false := beq_false_of_ne c11
 have HK := hide (show r = false by
  rw [HR.out]
  unfold memb5 cls5
  rw [if_neg c0, if_neg c1, if_neg c2, if_neg c3, if_neg c4, if_neg c5, if_neg c6, if_neg c7, if_neg c8, if_neg c9, if_neg c10, if_neg c11])
 clear HI HR HU HQ c0 c1 c2 c3 c4 c5 c6 c7 c8 c9 c10 c11
 go_wp2_with fail
 go_ret
 exact ⟨by rw [HK.out]; rfl, rfl⟩
end Go.Proofs.YtpkcklpjbeginaaGreatDoor

/-! ## Classes2 -/
namespace Go.Proofs.YtpkcklpjbeginaaGreatDoor
open Go.RowKit

theorem some5l (l : List UInt8) : ((List.range 256).any fun b => match cls5 l with | some f => f b | none => false) = (cls5 l).isSome := by
 by_cases c0 : l = [97, 108, 110, 117, 109]
 ·subst c0; decide +kernel
 by_cases c1 : l = [97, 108, 112, 104, 97]
 ·subst c1; decide +kernel
 by_cases c2 : l = [108, 111, 119, 101, 114]
 ·subst c2; decide +kernel
 by_cases c3 : l = [117, 112, 112, 101, 114]
 ·subst c3; decide +kernel
 by_cases c4 : l = [120, 100, 105, 103, 105, 116]
 ·subst c4; decide +kernel
 by_cases c5 : l = [100, 105, 103, 105, 116]
 ·subst c5; decide +kernel
 by_cases c6 : l = [115, 112, 97, 99, 101]
 ·subst c6; decide +kernel
 by_cases c7 : l = [98, 108, 97, 110, 107]
 ·subst c7; decide +kernel
 by_cases c8 : l = [99, 110, 116, 114, 108]
 ·subst c8; decide +kernel
 by_cases c9 : l = [112, 114, 105, 110, 116]
 ·subst c9; decide +kernel
 by_cases c10 : l = [103, 114, 97, 112, 104]
 ·subst c10; decide +kernel
 by_cases c11 : l = [112, 117, 110, 99, 116]
 ·subst c11; decide +kernel
 have h : cls5 l = none := by
  unfold cls5
  rw [if_neg c0, if_neg c1, if_neg c2, if_neg c3, if_neg c4, if_neg c5, if_neg c6, if_neg c7, if_neg c8, if_neg c9, if_neg c10, if_neg c11]
 rw [h]
 simp
theorem some5 (s : ByteArray) : (List.range 256).any (memb5 s) = (cls5 s.toList).isSome := some5l s.toList
/-- The class, or none, of a name. -/
def NamedIs (s : ByteArray) (w : World) (e : Ending) (w' : World) : Prop := e = .returned (.tuple #[setV (memb5 s), .bool (cls5 s.toList).isSome]) ∧ Below w.heap.size w w'
set_option maxRecDepth 100000 in
set_option maxHeartbeats 4000000 in
theorem refNamed_any (s : ByteArray) (w : World) : Calls Tryz.prog 138 #[.string s] w (NamedIs s w) := by
 have HS := hide (some5 s)
 have HME := hide (fun (k : Nat) (hk : k < 256) (y : World) => member_any s k hk y)
 unfold NamedIs
 generalize (cls5 s.toList).isSome = sm at *
 generalize memb5 s = R at *
 have hb := ((Below.refl w.heap.size w).alloc (Nat.le_refl _) (.cells #[.int .u64 0, .int .u64 0, .int .u64 0, .int .u64 0] 24)).alloc (by simp) (.cells (boolsC fun _ => false).toArray 132)
 have h1' := (Blk.new w 24 #[.int .u64 0, .int .u64 0, .int .u64 0, .int .u64 0]).alloc (.cells (boolsC fun _ => false).toArray 132)
 have h3 := Blk.new (w.alloc (.cells #[.int .u64 0, .int .u64 0, .int .u64 0, .int .u64 0] 24)) 132 (boolsC fun _ => false).toArray
 rw [World.size_alloc] at h3
 have hsz : w.heap.size + 1 < ((w.alloc (.cells #[.int .u64 0, .int .u64 0, .int .u64 0, .int .u64 0] 24)).alloc (.cells (boolsC fun _ => false).toArray 132)).heap.size := by simp
 have H0 := hide (And.intro h3 (And.intro h1' hb))
 clear hb h1' h3
 go_enter Tryz.func138, Tryz.ntmps138
 go_wp2_with (refine wpList_alloc_bools rfl rfl ?_)
 generalize ((w.alloc (.cells #[.int .u64 0, .int .u64 0, .int .u64 0, .int .u64 0] 24)).alloc (.cells (boolsC fun _ => false).toArray 132)) = W at *
 go_loopw [5, 6] (fun sv kv wr => ∃ k : Nat, kv = .int .i64 (k : Int) ∧ k ≤ 256 ∧ sv = .bool ((List.range k).any R) ∧ Blk wr (w.heap.size + 1) 132 (boolsC fun x => decide (x < k) && R x).toArray ∧ Blk wr w.heap.size 24 #[.int .u64 0, .int .u64 0, .int .u64 0, .int .u64 0] ∧ Below w.heap.size w wr) (fun _ kv _ => 256 - (intOf kv).toNat)
 case atStart => exact ⟨0, rfl, by omega, rfl, (boolsC_congr (f := fun _ => false) (g := fun x => decide (x < 0) && R x) (fun x _ => by simp)) ▸ H0.out.1, H0.out.2.1, H0.out.2.2⟩
 case round =>
  clear H0
  obtain ⟨k, rfl, hk, rfl, h1', h3, hb⟩ := hrel
  have HH := hide (And.intro h1' (And.intro h3 hb))
  have hzb := hb.size
  clear h1' h3 hb
  by_cases hlt : k < 256
  case neg =>
   have g1 : decide ((k : Int) < 256) = false := decide_eq_false (by omega)
   obtain rfl : k = 256 := by omega
   rw [HS.out]
   have H4 := hide (And.intro (show Blk wr (w.heap.size + 1) 132 (boolsC R).toArray from (boolsC_congr (f := fun x => decide (x < 256) && R x) (g := R) (fun x hx => by simp [hx])) ▸ HH.out.1) HH.out.2)
   clear HH
   have HM := hide (made_any R wr)
   go_wp2_with (refine wpList_load_bools rfl _ rfl (w.heap.size + 1) _ rfl H4.out.1 ?_)
   refine HM.out.mono ?_
   rintro e w5 ⟨rfl, hb5⟩
   have H5 := hide (And.intro (H4.out.2.1.below hb5 (by have := H4.out.2.1.lt; exact this)) (H4.out.2.2.trans (hb5.mono H4.out.2.2.size)))
   clear hb5 H4 HM
   unfold setV
   simp only [setC]
   go_wp2_with (refine wpList_store_row rfl _ _ _ rfl w.heap.size 0 _ _ _ rfl rfl H5.out.1 Tryz.sizeSetO (by simp) (by simp [Value.oneCell']) ?_)
   intro w9 hrow2 hg9 hz9
   have hrow := hrow2.out
   rw [splice_full (by rfl)] at hrow
   have hb9 := below_grew H5.out.2 hg9 (Nat.le_refl _) (fun q hq => by rw [← Option.some.inj hq]; omega)
   have HF := hide hb9
   have c9 := hrow.cell
   clear hrow hrow2 hg9 hz9
   go_wp2_with fail
   refine bodyPost_ret (v := .tuple #[.agg (setC R).toArray, .bool sm]) (by simp [results, Tryz.results138, go_sem, c9, setC]) rfl ?_
   exact ⟨rfl, HF.out⟩
  have g1 : decide ((k : Int) < 256) = true := decide_eq_true (by omega)
  have hk6 : (k : Int) < 256 := by omega
  have f5 := HH.out.1.frozen k
  have c5 := HH.out.1.bit k hlt
  have hnew : boolsC (fun x => decide (x < k + 1) && R x) = boolsC (fun x => if x = k then R k else decide (x < k) && R x) := boolsC_congr fun x _ => by
   by_cases e : x = k
   ·subst e; simp
   ·rw [if_neg e, show decide (x < k + 1) = decide (x < k) from decide_eq_decide.2 (by omega)]
  have hany : (List.range (k + 1)).any R = ((List.range k).any R || R k) := by rw [List.range_succ, List.any_append]; simp
  have HM := hide (HME.out k hlt wr)
  generalize (List.range k).any R = cur at *
  obtain ⟨rk, hrk⟩ : ∃ b, b = R k := ⟨_, rfl⟩
  rw [← hrk] at hnew hany HM
  have HNW := hide (And.intro hnew hany)
  clear hnew hany hrk
  go_wp2_with fail
  refine HM.out.mono ?_
  rintro e w5 ⟨rfl, hw5⟩
  subst hw5
  have H6 := hide (HH.out.1.setBit k rk)
  have H7 := hide (And.intro (HH.out.2.1.far (p := ⟨w.heap.size + 1, k, none⟩) (by show w.heap.size ≠ w.heap.size + 1; omega) (.bool rk)) (HH.out.2.2.setCell (p := ⟨w.heap.size + 1, k, none⟩) (by show w.heap.size ≤ w.heap.size + 1; omega) (.bool rk)))
  clear HM
  go_upto_region 7 with fail
  clear c5 f5
  generalize (w5.setCell ⟨w.heap.size + 1, k, none⟩ (.bool rk)) = w6 at *
  have c6 := H6.out.bit k hlt
  rw [if_pos rfl] at c6
  cases cur <;> cases rk
  all_goals
   go_wp2_with fail
   go_roundw
   case rel =>
    refine ⟨k + 1, by go_num, by omega, by rw [HNW.out.2]; rfl, ?_, H7.out.1, H7.out.2⟩
    rw [HNW.out.1]
    exact H6.out
   case measure => simp [intOf]; omega

/-- The other case of a letter. -/
def oth5 (b : Nat) : Nat := if up5 b then b + 32 else if low5 b then b - 32 else b
theorem oth5_lt {b : Nat} (h : b < 256) : oth5 b < 256 := by
 unfold oth5 up5 low5 bt5
 by_cases h1 : 65 ≤ b ∧ b ≤ 90
 ·rw [decide_eq_true h1, if_pos rfl]; omega
 ·rw [decide_eq_false h1, if_neg (by simp)]
  by_cases h2 : 97 ≤ b ∧ b ≤ 122
  ·rw [decide_eq_true h2, if_pos rfl]; omega
  ·rw [decide_eq_false h2, if_neg (by simp)]; omega
theorem oth5_oth (b : Nat) : oth5 (oth5 b) = b := by
 unfold oth5 up5 low5 bt5
 simp only [decide_eq_true_eq]
 repeat' split
 all_goals omega
theorem toList_upper : ByteArray.toList ⟨#[117, 112, 112, 101, 114]⟩ = [117, 112, 112, 101, 114] := by first | rfl | kernel_rfl | decide +kernel | simp [ByteArray.toList, ByteArray.toList.loop]
theorem toList_lower : ByteArray.toList ⟨#[108, 111, 119, 101, 114]⟩ = [108, 111, 119, 101, 114] := by first | rfl | kernel_rfl | decide +kernel | simp [ByteArray.toList, ByteArray.toList.loop]
theorem memb_upper (b : Nat) : memb5 ⟨#[117, 112, 112, 101, 114]⟩ b = up5 b := by
 unfold memb5
 rw [toList_upper]
 rfl
theorem memb_lower (b : Nat) : memb5 ⟨#[108, 111, 119, 101, 114]⟩ b = low5 b := by
 unfold memb5
 rw [toList_lower]
 rfl
theorem refOther_any (b : Nat) (hb : b < 256) (w : World) : Calls Tryz.prog 157 #[.int .u8 (b : Int)] w fun e w' => e = .returned (.int .u8 ((oth5 b : Nat) : Int)) ∧ w' = w := by
 have HU := hide (memb_upper b ▸ member_any ⟨#[117, 112, 112, 101, 114]⟩ b hb w)
 have HL := hide (memb_lower b ▸ member_any ⟨#[108, 111, 119, 101, 114]⟩ b hb w)
 have h1 : up5 b = true → 65 ≤ b ∧ b ≤ 90 := fun h => by unfold up5 bt5 at h; exact of_decide_eq_true h
 have h2 : low5 b = true → 97 ≤ b ∧ b ≤ 122 := fun h => by unfold low5 bt5 at h; exact of_decide_eq_true h
 obtain ⟨r, hr⟩ : ∃ r, r = oth5 b := ⟨_, rfl⟩
 rw [← hr]
 unfold oth5 at hr
 have HR := hide hr
 clear hr
 generalize up5 b = u at *
 generalize low5 b = l at *
 go_enter Tryz.func157, Tryz.ntmps157
 cases u with
 | true =>
  have h3 := h1 rfl
  have hw : IntKind.u8.wrap ((b : Int) + 32) = (b : Int) + 32 := by rw [IntKind.wrap_u8']; omega
  clear h1 h2
  go_wp2_with fail
  refine HU.out.mono ?_
  rintro e w5 ⟨rfl, hw5⟩
  subst hw5
  go_wp2_with fail
  go_ret
  exact ⟨by rw [HR.out]; simp, rfl⟩
 | false =>
  cases l with
  | true =>
   have h3 := h2 rfl
   have hw : IntKind.u8.wrap ((b : Int) - 32) = (b : Int) - 32 := by rw [IntKind.wrap_u8']; omega
   clear h1 h2
   have hrr : (r : Int) = (b : Int) - 32 := by rw [HR.out]; simp; omega
   go_wp2_with fail
   refine HU.out.mono ?_
   rintro e w5 ⟨rfl, hw5⟩
   subst hw5
   go_wp2_with fail
   refine HL.out.mono ?_
   rintro e w6 ⟨rfl, hw6⟩
   subst hw6
   go_wp2_with fail
   go_ret
   exact ⟨by rw [hrr]; rfl, rfl⟩
  | false =>
   clear h1 h2
   go_wp2_with fail
   refine HU.out.mono ?_
   rintro e w5 ⟨rfl, hw5⟩
   subst hw5
   go_wp2_with fail
   refine HL.out.mono ?_
   rintro e w6 ⟨rfl, hw6⟩
   subst hw6
   go_wp2_with fail
   go_ret
   exact ⟨by rw [HR.out]; rfl, rfl⟩
/-- With the other case of each letter. -/
def fold5 (S : Nat → Bool) : Nat → Bool := fun x => S x || S (oth5 x)
set_option maxRecDepth 100000 in
set_option maxHeartbeats 4000000 in
theorem refFold_any (S : Nat → Bool) (w : World) : Calls Tryz.prog 140 #[setV S] w (SetIs (fold5 S) w) := by
 obtain ⟨R, hR⟩ : ∃ R : Nat → Bool, R = fold5 S := ⟨_, rfl⟩
 rw [← hR]
 have HR := hide hR
 clear hR
 have hb := ((Below.refl w.heap.size w).alloc (Nat.le_refl _) (.cells (setC S).toArray 24)).alloc (by simp) (.cells #[.int .u64 0, .int .u64 0, .int .u64 0, .int .u64 0] 24)
 have h1 := (Blk.new w 24 (setC S).toArray).alloc (.cells #[.int .u64 0, .int .u64 0, .int .u64 0, .int .u64 0] 24)
 have h3 := Blk.new (w.alloc (.cells (setC S).toArray 24)) 24 #[.int .u64 0, .int .u64 0, .int .u64 0, .int .u64 0]
 rw [World.size_alloc] at h3
 have hsz : w.heap.size + 1 < ((w.alloc (.cells (setC S).toArray 24)).alloc (.cells #[.int .u64 0, .int .u64 0, .int .u64 0, .int .u64 0] 24)).heap.size := by simp
 have H0 := hide (And.intro h1 (And.intro h3 hb))
 clear hb h1 h3
 unfold setV
 go_enter Tryz.func140, Tryz.ntmps140
 go_upto_region 1 with fail
 generalize ((w.alloc (.cells (setC S).toArray 24)).alloc (.cells #[.int .u64 0, .int .u64 0, .int .u64 0, .int .u64 0] 24)) = W at *
 have c0 : ∀ i : Nat, _ = _ := H0.out.1.cell
 simp only [setC] at c0
 have HB := hide (bits_any S W)
 unfold setV setC at HB
 go_wp2_with fail
 refine HB.out.mono ?_
 rintro e w1 ⟨rfl, hb1⟩
 have hal := (Below.refl w1.heap.size w1).alloc (Nat.le_refl _) (.cells (boolsC fun _ => false).toArray 132)
 have hzb := Blk.new w1 132 (boolsC fun _ => false).toArray
 have hw1 := hb1.size
 have H1 := hide (And.intro (H0.out.2.1.below hb1 (by omega)) (H0.out.2.2.trans (hb1.mono (by omega))))
 clear hb1 HB c0 H0
 go_wp2_with (first | refine wpList_alloc_bools rfl rfl ?_ | refine wpList_store_bools rfl _ _ rfl w1.heap.size _ S rfl rfl hzb (by simp [boolsC_len]) ?_)
 intro w2 hrow hg9 hz9
 have hbE : Below w1.heap.size w1 w2 := below_grew hal hg9 (Nat.le_refl _) (fun q hq => by rw [← Option.some.inj hq]; exact Nat.le_refl _)
 have H2 := hide (And.intro hrow (And.intro (H1.out.1.below hbE (by have := H1.out.1.lt; exact this)) (H1.out.2.trans (hbE.mono (by omega)))))
 have hgl := hrow.lt
 clear hrow hg9 hz9 hal hzb hbE H1
 generalize hgb : w1.heap.size = gb at *
 clear hgb w1
 have hal := (Below.refl w2.heap.size w2).alloc (Nat.le_refl _) (.cells (boolsC fun _ => false).toArray 132)
 have hzb := Blk.new w2 132 (boolsC fun _ => false).toArray
 have HB2 := hide (H2.out.1.alloc (.cells (boolsC fun _ => false).toArray 132))
 go_wp2_with (first | refine wpList_alloc_bools rfl rfl ?_ | refine wpList_load_bools rfl _ rfl gb S rfl H2.out.1 ?_ | refine wpList_store_bools rfl _ _ rfl w2.heap.size _ S rfl rfl hzb (by simp [boolsC_len]) ?_)
 intro w3 hrow hg9 hz9
 have hbE : Below w2.heap.size w2 w3 := below_grew hal hg9 (Nat.le_refl _) (fun q hq => by rw [← Option.some.inj hq]; exact Nat.le_refl _)
 have hw2z := H2.out.2.2.size
 have H3 := hide (And.intro hrow (And.intro (H2.out.1.below hbE hgl) (And.intro (H2.out.2.1.below hbE (by have := H2.out.2.1.lt; exact this)) (H2.out.2.2.trans (hbE.mono hw2z)))))
 have hgm := hrow.lt
 clear hrow hg9 hz9 hal hzb hbE H2 HB2
 generalize hgb : w2.heap.size = gm at *
 clear hgb w2
 go_wp2_with fail
 go_loopw [5] (fun kv wr => ∃ k : Nat, kv = .int .i64 (k : Int) ∧ k ≤ 256 ∧ Blk wr gm 132 (boolsC fun x => S x || (decide (oth5 x < k) && S (oth5 x))).toArray ∧ Blk wr gb 132 (boolsC S).toArray ∧ Blk wr (w.heap.size + 1) 24 #[.int .u64 0, .int .u64 0, .int .u64 0, .int .u64 0] ∧ Below w.heap.size w wr) (fun kv _ => 256 - (intOf kv).toNat)
 case atStart => exact ⟨0, rfl, by omega, (boolsC_congr (f := S) (g := fun x => S x || (decide (oth5 x < 0) && S (oth5 x))) (fun x _ => by simp)) ▸ H3.out.1, H3.out.2.1, H3.out.2.2.1, H3.out.2.2.2⟩
 case round =>
  clear H3
  obtain ⟨k, rfl, hk, h1, h2, h3, hb⟩ := hrel
  have HH := hide (And.intro h1 (And.intro h2 (And.intro h3 hb)))
  have hzb := hb.size
  clear h1 h2 h3 hb
  by_cases hlt : k < 256
  case neg =>
   have g1 : decide ((k : Int) < 256) = false := decide_eq_false (by omega)
   obtain rfl : k = 256 := by omega
   have H4 := hide (And.intro (show Blk wr gm 132 (boolsC R).toArray from (boolsC_congr (f := fun x => S x || (decide (oth5 x < 256) && S (oth5 x))) (g := R) (fun x hx => by rw [HR.out]; unfold fold5; rw [decide_eq_true (oth5_lt hx), Bool.true_and])) ▸ HH.out.1) HH.out.2.2)
   clear HH
   have HM := hide (made_any R wr)
   go_wp2_with (refine wpList_load_bools rfl _ rfl gm _ rfl H4.out.1 ?_)
   refine HM.out.mono ?_
   rintro e w5 ⟨rfl, hb5⟩
   have H5 := hide (And.intro (H4.out.2.1.below hb5 (by have := H4.out.2.1.lt; exact this)) (H4.out.2.2.trans (hb5.mono H4.out.2.2.size)))
   clear hb5 H4 HM
   unfold setV
   simp only [setC]
   go_wp2_with (refine wpList_store_row rfl _ _ _ rfl (w.heap.size + 1) 0 _ _ _ rfl rfl H5.out.1 Tryz.sizeSetO (by simp) (by simp [Value.oneCell']) ?_)
   intro w9 hrow2 hg9 hz9
   have hrow := hrow2.out
   rw [splice_full (by rfl)] at hrow
   have hb9 := below_grew H5.out.2 hg9 (Nat.le_refl _) (fun q hq => by rw [← Option.some.inj hq]; omega)
   have HF := hide (And.intro hrow hb9)
   clear hrow hrow2 hg9 hz9
   go_wp2_with fail
   refine bodyPost_ret (results_cell_row rfl _ _ (w.heap.size + 1) _ _ (0, 0) _ rfl HF.out.1 Tryz.underlying24 rfl Tryz.sizeSetO) rfl ?_
   exact ⟨rfl, HF.out.2⟩
  have g1 : decide ((k : Int) < 256) = true := decide_eq_true (by omega)
  have hk6 : (k : Int) < 256 := by omega
  have c5 := HH.out.2.1.bit k hlt
  obtain ⟨sk, hsk⟩ : ∃ b, b = S k := ⟨_, rfl⟩
  rw [← hsk] at c5
  have HSK := hide hsk
  clear hsk
  cases sk with
  | false =>
   have hnew : boolsC (fun x => S x || (decide (oth5 x < k) && S (oth5 x))) = boolsC (fun x => S x || (decide (oth5 x < k + 1) && S (oth5 x))) := boolsC_congr fun x _ => by
    by_cases e : oth5 x = k
    ·rw [e, ← HSK.out]; simp
    ·rw [show decide (oth5 x < k + 1) = decide (oth5 x < k) from decide_eq_decide.2 (by omega)]
   have HNW := hide hnew
   clear hnew
   go_wp2_with fail
   go_roundw
   case rel => exact ⟨k + 1, by go_num, by omega, HNW.out ▸ HH.out.1, HH.out.2.1, HH.out.2.2.1, HH.out.2.2.2⟩
   case measure => simp [intOf]; omega
  | true =>
   have hnew : boolsC (fun x => S x || (decide (oth5 x < k + 1) && S (oth5 x))) = boolsC (fun x => if x = oth5 k then true else S x || (decide (oth5 x < k) && S (oth5 x))) := boolsC_congr fun x _ => by
    by_cases e : x = oth5 k
    ·rw [if_pos e, e, oth5_oth, ← HSK.out]; simp
    ·have e2 : oth5 x ≠ k := fun h => e (by rw [← h, oth5_oth])
     rw [if_neg e, show decide (oth5 x < k + 1) = decide (oth5 x < k) from decide_eq_decide.2 (by omega)]
   have HNW := hide hnew
   have ho := oth5_lt hlt
   have hcv : IntKind.u8.wrap (k : Int) = (k : Int) := by rw [IntKind.wrap_u8']; omega
   have HO := hide (refOther_any k hlt wr)
   clear hnew
   have f5 := HH.out.1.frozen (oth5 k)
   have c6 := HH.out.1.bit (oth5 k) ho
   generalize hok : oth5 k = q at *
   clear hok
   go_wp2_with fail
   refine HO.out.mono ?_
   rintro e w5 ⟨rfl, hw5⟩
   subst hw5
   go_wp2_with fail
   go_roundw
   case rel =>
    refine ⟨k + 1, by go_num, by omega, ?_, HH.out.2.1.far (by show gb ≠ gm; omega) _, HH.out.2.2.1.far (by show w.heap.size + 1 ≠ gm; omega) _, HH.out.2.2.2.setCell (by show w.heap.size ≤ gm; omega) _⟩
    rw [HNW.out]
    exact HH.out.1.setBit q true
   case measure => simp [intOf]; omega
end Go.Proofs.YtpkcklpjbeginaaGreatDoor

/-! ## Classes3 -/
namespace Go.Proofs.YtpkcklpjbeginaaGreatDoor
open Go.RowKit

theorem has_set (S : Nat → Bool) (b : Nat) (hb : b < 256) : Hd.has ⟨0, ((wd S 0 : Nat) : Int), ((wd S 1 : Nat) : Int), ((wd S 2 : Nat) : Int), ((wd S 3 : Nat) : Int), 0, 0, 0, false⟩ b = S b := by
 have h := wd_bit S (b / 64) (b % 64) (Nat.mod_lt _ (by decide))
 rw [show 64 * (b / 64) + b % 64 = b by omega] at h
 rw [← h]
 unfold Hd.has Hd.word
 have : b / 64 = 0 ∨ b / 64 = 1 ∨ b / 64 = 2 ∨ b / 64 = 3 := by omega
 rcases this with e | e | e | e <;> rw [e] <;> simp
theorem wd_u64 (S : Nat → Bool) (k : Nat) : IsU64 ((wd S k : Nat) : Int) := by
 have := wd_lt S k
 unfold IsU64
 omega
theorem has5_any (S : Nat → Bool) (b : Nat) (hb : b < 256) (w : World) : Calls Tryz.prog 122 #[setV S, .int .u8 (b : Int)] w fun e w' => e = .returned (.bool (S b)) ∧ Below w.heap.size w w' := by
 rw [← has_set S b hb]
 exact has_any _ _ _ _ b hb w (wd_u64 S 0) (wd_u64 S 1) (wd_u64 S 2) (wd_u64 S 3)
theorem join2_any (S T : Nat → Bool) (g : Nat) (w : World) (hb : Blk w g 24 #[.int .u64 ((wd S 0 : Nat) : Int), .int .u64 ((wd S 1 : Nat) : Int), .int .u64 ((wd S 2 : Nat) : Int), .int .u64 ((wd S 3 : Nat) : Int), .int .u64 ((wd T 0 : Nat) : Int), .int .u64 ((wd T 1 : Nat) : Int), .int .u64 ((wd T 2 : Nat) : Int), .int .u64 ((wd T 3 : Nat) : Int)]) : Calls Tryz.prog 147 #[.slice (some ⟨g, 0, none⟩) 2 2] w (SetIs (fun x => S x || T x) w) := by
 have h := join_any [S, T] (some ⟨g, 0, none⟩) 2 w (by simp) (.inr ⟨g, 0, rfl, hb.lt, fun i x hi j u hu => by
  rw [Addr.add_lit, Nat.zero_add, hb.cell]
  have hi2 : i < 2 := by have := (List.getElem?_eq_some_iff.1 hi).1; simpa using this
  have hj : j < 4 := by have := (List.getElem?_eq_some_iff.1 hu).1; simpa [Se.cells] using this
  have : i = 0 ∨ i = 1 := by omega
  rcases this with e | e <;> subst e <;> (obtain rfl := Option.some.inj hi) <;> (have : j = 0 ∨ j = 1 ∨ j = 2 ∨ j = 3 := by omega) <;> rcases this with e | e | e | e <;> subst e <;> exact hu⟩)
 have e : (fun x => [S, T].any fun T => T x) = fun x => S x || T x := by funext x; simp
 rw [e] at h
 exact h
theorem of1_any (b g : Nat) (w : World) (h256 : b < 256) (hb : Blk w g 5 #[.int .u8 (b : Int)]) : Calls Tryz.prog 95 #[.slice (some ⟨g, 0, none⟩) 1 1] w (SetIs (fun x => decide (x = b)) w) := by
 have h := of_any [b] (some ⟨g, 0, none⟩) 1 w (by simp) (fun i x hi => by
  have hi1 : i = 0 := by have := (List.getElem?_eq_some_iff.1 hi).1; simpa using this
  subst hi1
  obtain rfl := Option.some.inj hi
  exact ⟨h256, g, 0, rfl, hb.lt, by rw [hb.cell]; rfl⟩)
 have e : (fun x => [b].any fun b => decide (x = b)) = fun x => decide (x = b) := by funext x; simp
 rw [e] at h
 exact h
theorem of2_any (b c g : Nat) (w : World) (h1 : b < 256) (h2 : c < 256) (hb : Blk w g 5 #[.int .u8 (b : Int), .int .u8 (c : Int)]) : Calls Tryz.prog 95 #[.slice (some ⟨g, 0, none⟩) 2 2] w (SetIs (fun x => decide (x = b) || decide (x = c)) w) := by
 have h := of_any [b, c] (some ⟨g, 0, none⟩) 2 w (by simp) (fun i x hi => by
  have hi1 : i < 2 := by have := (List.getElem?_eq_some_iff.1 hi).1; simpa using this
  have : i = 0 ∨ i = 1 := by omega
  rcases this with e | e <;> subst e <;> (obtain rfl := Option.some.inj hi)
  ·exact ⟨h1, g, 0, rfl, hb.lt, by rw [hb.cell]; rfl⟩
  ·exact ⟨h2, g, 0, rfl, hb.lt, by rw [hb.cell]; rfl⟩)
 have e : (fun x => [b, c].any fun b => decide (x = b)) = fun x => decide (x = b) || decide (x = c) := by funext x; simp
 rw [e] at h
 exact h

theorem oth_or : ∀ b : Fin 256, (if 97 ≤ b.val ||| 32 ∧ b.val ||| 32 ≤ 122 then b.val ^^^ 32 else b.val) = oth5 b.val := by decide +kernel
theorem other5_any (b : Nat) (hb : b < 256) (w : World) : Calls Tryz.prog 168 #[.int .u8 (b : Int)] w fun e w' => e = .returned (.int .u8 ((oth5 b : Nat) : Int)) ∧ w' = w := by
 have ho := u8_or_nat b 32 hb (by decide)
 have hx := u8_xor_nat b 32 hb (by decide)
 have h := oth_or ⟨b, hb⟩
 simp only at h
 rw [← h]
 rw [show ((32 : Nat) : Int) = 32 from rfl] at ho hx
 generalize b ||| 32 = o at *
 generalize b ^^^ 32 = y at *
 clear h
 go_enter Tryz.func168, Tryz.ntmps168
 by_cases h1 : 97 ≤ o
 ·have e1 : decide ((o : Int) ≥ 97) = true := decide_eq_true (by omega)
  have e1' : decide ((97 : Int) ≤ (o : Int)) = true := decide_eq_true (by omega)
  by_cases h2 : o ≤ 122
  ·have e2 : decide ((o : Int) ≤ 122) = true := decide_eq_true (by omega)
   rw [if_pos ⟨h1, h2⟩]
   go_wp2_with fail
   go_ret
   exact ⟨rfl, rfl⟩
  ·have e2 : decide ((o : Int) ≤ 122) = false := decide_eq_false (by omega)
   rw [if_neg (fun h => h2 h.2)]
   go_wp2_with fail
   go_ret
   exact ⟨rfl, rfl⟩
 ·have e1 : decide ((o : Int) ≥ 97) = false := decide_eq_false (by omega)
  have e1' : decide ((97 : Int) ≤ (o : Int)) = false := decide_eq_false (by omega)
  rw [if_neg (fun h => h1 h.1)]
  go_wp2_with fail
  go_ret
  exact ⟨rfl, rfl⟩
set_option maxRecDepth 100000 in
set_option maxHeartbeats 4000000 in
theorem foldc_any (S : Nat → Bool) (w : World) : Calls Tryz.prog 148 #[setV S] w (SetIs (fold5 S) w) := by
 obtain ⟨R, hR⟩ : ∃ R : Nat → Bool, R = fold5 S := ⟨_, rfl⟩
 rw [← hR]
 have HR := hide hR
 clear hR
 have hb := ((Below.refl w.heap.size w).alloc (Nat.le_refl _) (.cells (setC S).toArray 24)).alloc (by simp) (.cells #[.int .u64 0, .int .u64 0, .int .u64 0, .int .u64 0] 24)
 have h1 := (Blk.new w 24 (setC S).toArray).alloc (.cells #[.int .u64 0, .int .u64 0, .int .u64 0, .int .u64 0] 24)
 have h3 := Blk.new (w.alloc (.cells (setC S).toArray 24)) 24 #[.int .u64 0, .int .u64 0, .int .u64 0, .int .u64 0]
 rw [World.size_alloc] at h3
 have hsz : w.heap.size + 1 < ((w.alloc (.cells (setC S).toArray 24)).alloc (.cells #[.int .u64 0, .int .u64 0, .int .u64 0, .int .u64 0] 24)).heap.size := by simp
 have H0 := hide (And.intro h1 (And.intro h3 hb))
 clear hb h1 h3
 unfold setV
 go_enter Tryz.func148, Tryz.ntmps148
 go_upto_region 1 with fail
 generalize ((w.alloc (.cells (setC S).toArray 24)).alloc (.cells #[.int .u64 0, .int .u64 0, .int .u64 0, .int .u64 0] 24)) = W at *
 have c0 : ∀ i : Nat, _ = _ := H0.out.1.cell
 simp only [setC] at c0
 have hal := (Below.refl W.heap.size W).alloc (Nat.le_refl _) (.cells #[.int .u64 0, .int .u64 0, .int .u64 0, .int .u64 0] 24)
 have hzb := Blk.new W 24 #[.int .u64 0, .int .u64 0, .int .u64 0, .int .u64 0]
 go_wp2_with (refine wpList_store_row rfl _ _ _ rfl W.heap.size 0 _ _ _ rfl rfl hzb Tryz.sizeSetO (by simp) (by simp [Value.oneCell']) ?_)
 intro w2 hrow2 hg9 hz9
 have hrow := hrow2.out
 rw [splice_full (by rfl)] at hrow
 have hbE : Below W.heap.size W w2 := below_grew hal hg9 (Nat.le_refl _) (fun q hq => by rw [← Option.some.inj hq]; exact Nat.le_refl _)
 have H2 := hide (And.intro (show Blk w2 W.heap.size 24 (setC S).toArray from hrow) (And.intro (H0.out.1.below hbE (by omega)) (And.intro (H0.out.2.1.below hbE (by omega)) (H0.out.2.2.trans (hbE.mono (by omega))))))
 have hgl := hrow.lt
 clear hrow hrow2 hg9 hz9 hbE hal hzb c0 H0
 generalize hgb : W.heap.size = gb at *
 clear hgb W
 go_wp2_with fail
 go_loopw [4] (fun kv wr => ∃ k : Nat, kv = .int .i32 (k : Int) ∧ 65 ≤ k ∧ k ≤ 123 ∧ Blk wr gb 24 (setC fun x => S x || (decide (65 ≤ oth5 x ∧ oth5 x < k) && S (oth5 x))).toArray ∧ Blk wr w.heap.size 24 (setC S).toArray ∧ Blk wr (w.heap.size + 1) 24 #[.int .u64 0, .int .u64 0, .int .u64 0, .int .u64 0] ∧ Below w.heap.size w wr) (fun kv _ => 123 - (intOf kv).toNat)
 case atStart => exact ⟨65, rfl, by omega, by omega, (setC_congr (S := S) (T := fun x => S x || (decide (65 ≤ oth5 x ∧ oth5 x < 65) && S (oth5 x))) (fun x _ => by rw [decide_eq_false (by omega)]; simp)) ▸ H2.out.1, H2.out.2.1, H2.out.2.2.1, H2.out.2.2.2⟩
 case round =>
  clear H2
  obtain ⟨k, rfl, hk0, hk, h1, h2, h3, hb⟩ := hrel
  have HH := hide (And.intro h1 (And.intro h2 (And.intro h3 hb)))
  have hzb := hb.size
  have hz1 := h1.lt
  have hz2 := h2.lt
  clear h1 h2 h3 hb
  by_cases hlt : k ≤ 122
  case neg =>
   have g1 : decide ((k : Int) ≤ 122) = false := decide_eq_false (by omega)
   obtain rfl : k = 123 := by omega
   have H4 := hide (And.intro (show Blk wr gb 24 (setC R).toArray from (setC_congr (S := fun x => S x || (decide (65 ≤ oth5 x ∧ oth5 x < 123) && S (oth5 x))) (T := R) (fun x hx => by
    rw [HR.out]; unfold fold5
    by_cases h : 65 ≤ oth5 x ∧ oth5 x < 123
    ·rw [decide_eq_true h, Bool.true_and]
    ·have e : oth5 x = x := by
      unfold oth5 up5 low5 bt5 at h ⊢
      simp only [decide_eq_true_eq] at h ⊢
      repeat' split at h
      all_goals (repeat' split) <;> omega
     rw [decide_eq_false h, e]; simp)) ▸ HH.out.1) (And.intro HH.out.2.2.1 HH.out.2.2.2))
   clear HH
   have cb : ∀ i : Nat, _ = _ := H4.out.1.cell
   simp only [setC] at cb
   go_wp2_with (refine wpList_store_row rfl _ _ _ rfl (w.heap.size + 1) 0 _ _ _ rfl rfl H4.out.2.1 Tryz.sizeSetO (by simp) (by simp [Value.oneCell']) ?_)
   intro w9 hrow2 hg9 hz9
   have hrow := hrow2.out
   rw [splice_full (by rfl)] at hrow
   have hb9 := below_grew H4.out.2.2 hg9 (Nat.le_refl _) (fun q hq => by rw [← Option.some.inj hq]; omega)
   have HF := hide (And.intro hrow hb9)
   clear hrow hrow2 hg9 hz9 cb
   go_wp2_with fail
   refine bodyPost_ret (results_cell_row rfl _ _ (w.heap.size + 1) _ _ (0, 0) _ rfl HF.out.1 Tryz.underlying24 rfl Tryz.sizeSetO) rfl ?_
   exact ⟨rfl, HF.out.2⟩
  have g1 : decide ((k : Int) ≤ 122) = true := decide_eq_true (by omega)
  have hk256 : k < 256 := by omega
  have hcv : IntKind.u8.wrap (k : Int) = (k : Int) := by rw [IntKind.wrap_u8']; omega
  have hiw : IntKind.i32.wrap ((k : Int) + 1) = (k : Int) + 1 := by simp [IntKind.wrap, IntKind.bits, IntKind.signed]; omega
  have HHs := hide (has5_any S k hk256 wr)
  unfold setV setC at HHs
  have c0 : ∀ i : Nat, _ = _ := HH.out.2.1.cell
  simp only [setC] at c0
  obtain ⟨sk, hsk⟩ : ∃ b, b = S k := ⟨_, rfl⟩
  rw [← hsk] at HHs
  have HSK := hide hsk
  clear hsk
  go_wp2_with fail
  refine HHs.out.mono ?_
  rintro e w3 ⟨rfl, hb3⟩
  have H3 := hide (And.intro (HH.out.1.below hb3 hz1) (And.intro (HH.out.2.1.below hb3 hz2) (And.intro (HH.out.2.2.1.below hb3 (by have := HH.out.2.2.1.lt; exact this)) (HH.out.2.2.2.trans (hb3.mono hzb)))))
  have hz3 := hb3.size
  clear hb3 HHs c0 HH
  cases sk with
  | false =>
   have hnew : setC (fun x => S x || (decide (65 ≤ oth5 x ∧ oth5 x < k) && S (oth5 x))) = setC (fun x => S x || (decide (65 ≤ oth5 x ∧ oth5 x < k + 1) && S (oth5 x))) := setC_congr fun x _ => by
    by_cases e : oth5 x = k
    ·rw [e, ← HSK.out]; simp
    ·rw [show decide (65 ≤ oth5 x ∧ oth5 x < k + 1) = decide (65 ≤ oth5 x ∧ oth5 x < k) from decide_eq_decide.2 (by omega)]
   have HNW := hide hnew
   clear hnew
   go_wp2_with fail
   go_roundw
   case rel => exact ⟨k + 1, by go_num, by omega, by omega, HNW.out ▸ H3.out.1, H3.out.2.1, H3.out.2.2.1, H3.out.2.2.2⟩
   case measure => simp [intOf]; omega
  | true =>
   obtain ⟨S0, hS0⟩ : ∃ S0 : Nat → Bool, S0 = (fun x => S x || (decide (65 ≤ oth5 x ∧ oth5 x < k) && S (oth5 x))) := ⟨_, rfl⟩
   rw [← hS0] at H3
   have hnew : setC (fun x => S x || (decide (65 ≤ oth5 x ∧ oth5 x < k + 1) && S (oth5 x))) = setC (fun x => S0 x || decide (x = oth5 k)) := setC_congr fun x _ => by
    rw [hS0]
    by_cases e : x = oth5 k
    ·rw [e, oth5_oth, ← HSK.out, decide_eq_true (by omega : 65 ≤ k ∧ k < k + 1)]; simp
    ·have e2 : oth5 x ≠ k := fun h => e (by rw [← h, oth5_oth])
     rw [decide_eq_false e, Bool.or_false, show decide (65 ≤ oth5 x ∧ oth5 x < k + 1) = decide (65 ≤ oth5 x ∧ oth5 x < k) from decide_eq_decide.2 (by omega)]
   have HNW := hide hnew
   have ho := oth5_lt hk256
   have HO := hide (fun z => other5_any k hk256 z)
   clear hnew hS0
   generalize hok : oth5 k = q at HNW HO ho
   clear hok
   go_upto_region 6 with fail
   refine wp_region_mix (fun z => Below w3.heap.size w3 z) [8] (by kernel_rfl) (fun hcl => ?_)
   have hS : Below w3.heap.size w3 w3.drew := (Below.refl _ _).drew
   refine wpAnyT_take (i := 0) hcl rfl (by kernel_rfl) (v := ?_) (fun _ _ _ h => h) hS (Or.inl ⟨rfl, fun w' hS => ?_⟩) (fun hcl => ?_)
   rotate_left
   ·skip
    have cb : ∀ i : Nat, _ = _ := (H3.out.1.below hS (by omega)).cell
    simp only [setC] at cb
    go_simp
    with_reducible rfl
   simp only [List.getElem_toArray, List.getElem_cons_zero, List.getElem_cons_succ, Act.put, List.setIfInBounds_toArray, List.set_cons_zero, List.set_cons_succ]
   refine wpAnyT_free (i := 1) hcl rfl (by kernel_rfl) (v := ?_) (fun _ _ _ h => h) hS (Or.inl ⟨rfl, fun w' _ => ?_⟩) (fun hcl => ?_)
   rotate_left
   ·go_simp
    with_reducible rfl
   simp only [List.getElem_toArray, List.getElem_cons_zero, List.getElem_cons_succ, Act.put, List.setIfInBounds_toArray, List.set_cons_zero, List.set_cons_succ]
   refine wpAnyT_free (i := 2) hcl rfl (by kernel_rfl) (v := ?_) (fun _ _ _ h => h) hS (Or.inl ⟨rfl, fun w' _ => ?_⟩) (fun hcl => ?_)
   rotate_left
   ·go_simp
    with_reducible rfl
   simp only [List.getElem_toArray, List.getElem_cons_zero, List.getElem_cons_succ, Act.put, List.setIfInBounds_toArray, List.set_cons_zero, List.set_cons_succ]
   refine wpAnyT_step (i := 3) hcl rfl (by kernel_rfl) (fun hcl => ?_)
   simp only [List.getElem_toArray, List.getElem_cons_zero, List.getElem_cons_succ, Act.put, List.setIfInBounds_toArray, List.set_cons_zero, List.set_cons_succ]
   go_wp2_with fail
   refine (HO.out _).mono ?_
   rintro e w4 ⟨rfl, hw4⟩
   subst hw4
   go_wp2_with fail
   refine ⟨hS, ?_⟩
   refine wpAnyT_step (i := 4) hcl rfl (by kernel_rfl) (fun hcl => ?_)
   simp only [List.getElem_toArray, List.getElem_cons_zero, List.getElem_cons_succ, Act.put, List.setIfInBounds_toArray, List.set_cons_zero, List.set_cons_succ]
   go_wp2_with fail
   have hu : Blk (w3.alloc (.cells #[.int .u8 (q : Int)] 5)).drew w3.heap.size 5 #[.int .u8 (q : Int)] := Blk.new w3.drew 5 #[.int .u8 (q : Int)]
   have hS4 : Below w3.heap.size w3 (w3.alloc (.cells #[.int .u8 (q : Int)] 5)).drew := ((Below.refl w3.heap.size w3).alloc (Nat.le_refl _) (.cells #[.int .u8 (q : Int)] 5)).drew
   generalize (w3.alloc (.cells #[.int .u8 (q : Int)] 5)).drew = w4 at *
   refine ⟨hS4, ?_⟩
   refine wpAnyT_step (i := 5) hcl rfl (by kernel_rfl) (fun hcl => ?_)
   simp only [List.getElem_toArray, List.getElem_cons_zero, List.getElem_cons_succ, Act.put, List.setIfInBounds_toArray, List.set_cons_zero, List.set_cons_succ]
   go_wp2_with fail
   refine (of1_any q w3.heap.size w4 ho hu).mono ?_
   rintro e w5 ⟨rfl, hb5⟩
   have hS5 := hS4.trans (hb5.mono hS4.size)
   unfold setV setC
   go_wp2_with fail
   refine ⟨hS5, ?_⟩
   clear hu hS hS4 hb5
   refine wpAnyT_step (i := 6) hcl rfl (by kernel_rfl) (fun hcl => ?_)
   simp only [List.getElem_toArray, List.getElem_cons_zero, List.getElem_cons_succ, Act.put, List.setIfInBounds_toArray, List.set_cons_zero, List.set_cons_succ]
   go_wp2_with fail
   have hu := Blk.new w5 24 #[.int .u64 ((wd S0 0 : Nat) : Int), .int .u64 ((wd S0 1 : Nat) : Int), .int .u64 ((wd S0 2 : Nat) : Int), .int .u64 ((wd S0 3 : Nat) : Int), .int .u64 ((wd (fun x => decide (x = q)) 0 : Nat) : Int), .int .u64 ((wd (fun x => decide (x = q)) 1 : Nat) : Int), .int .u64 ((wd (fun x => decide (x = q)) 2 : Nat) : Int), .int .u64 ((wd (fun x => decide (x = q)) 3 : Nat) : Int)]
   have hbu := (Below.refl w5.heap.size w5).alloc (Nat.le_refl _) (.cells #[.int .u64 ((wd S0 0 : Nat) : Int), .int .u64 ((wd S0 1 : Nat) : Int), .int .u64 ((wd S0 2 : Nat) : Int), .int .u64 ((wd S0 3 : Nat) : Int), .int .u64 ((wd (fun x => decide (x = q)) 0 : Nat) : Int), .int .u64 ((wd (fun x => decide (x = q)) 1 : Nat) : Int), .int .u64 ((wd (fun x => decide (x = q)) 2 : Nat) : Int), .int .u64 ((wd (fun x => decide (x = q)) 3 : Nat) : Int)] 24)
   have hS6 := hS5.trans (hbu.mono hS5.size)
   generalize (w5.alloc (.cells #[.int .u64 ((wd S0 0 : Nat) : Int), .int .u64 ((wd S0 1 : Nat) : Int), .int .u64 ((wd S0 2 : Nat) : Int), .int .u64 ((wd S0 3 : Nat) : Int), .int .u64 ((wd (fun x => decide (x = q)) 0 : Nat) : Int), .int .u64 ((wd (fun x => decide (x = q)) 1 : Nat) : Int), .int .u64 ((wd (fun x => decide (x = q)) 2 : Nat) : Int), .int .u64 ((wd (fun x => decide (x = q)) 3 : Nat) : Int)] 24)) = w6 at *
   generalize w5.heap.size = gv at *
   refine ⟨hS6, ?_⟩
   refine wpAnyT_step (i := 7) hcl rfl (by kernel_rfl) (fun hcl => ?_)
   simp only [List.getElem_toArray, List.getElem_cons_zero, List.getElem_cons_succ, Act.put, List.setIfInBounds_toArray, List.set_cons_zero, List.set_cons_succ]
   go_wp2_with fail
   refine (join2_any S0 (fun x => decide (x = q)) gv w6 hu).mono ?_
   rintro e w7 ⟨rfl, hb7⟩
   have hS7 := hS6.trans (hb7.mono hS6.size)
   unfold setV setC
   go_wp2_with fail
   refine ⟨hS7, ?_⟩
   have H7 := hide (And.intro (H3.out.1.below hS7 (by omega)) (And.intro (H3.out.2.1.below hS7 (by omega)) (And.intro (H3.out.2.2.1.below hS7 (by have := H3.out.2.2.1.lt; exact this)) (H3.out.2.2.2.trans (hS7.mono (by omega))))))
   have hz7 := hS7.size
   clear hS5 hu hbu hS6 hb7 hS7 H3
   refine wpAnyT_last (i := 8) hcl rfl (by kernel_rfl) (by kernel_rfl) (fun hcl => ?_)
   simp only [List.getElem_toArray, List.getElem_cons_zero, List.getElem_cons_succ, Act.put, List.setIfInBounds_toArray, List.set_cons_zero, List.set_cons_succ]
   refine wpList_store_row rfl _ _ _ rfl gb 0 _ _ _ rfl rfl H7.out.1 Tryz.sizeSetO (by simp [setC]) (by simp [Value.oneCell']) ?_
   intro w8 hrow2 hg9 hz9
   refine wpList_nil ?_
   have hrow := hrow2.out
   rw [splice_full (by rfl)] at hrow
   have H8 := hide (And.intro (show Blk w8 gb 24 (setC fun x => S0 x || decide (x = q)).toArray from hrow) (And.intro (H7.out.2.1.grown hg9 (fun e => by have := Option.some.inj e; omega)) (And.intro (H7.out.2.2.1.grown hg9 (fun e => by have := Option.some.inj e; omega)) (below_grew H7.out.2.2.2 hg9 (Nat.le_refl _) (fun q hq => by rw [← Option.some.inj hq]; omega)))))
   clear hrow hrow2 hg9 hz9 H7
   refine wpAnyT_done (by kernel_rfl) ?_ _
   go_wp2_with fail
   refine ⟨⟨_, _, _, _, _, _, _, _, _, _, _, _, _, _, _, _, _, ⟨k + 1, ?_, by omega, by omega, HNW.out ▸ H8.out.1, H8.out.2.1, H8.out.2.2.1, H8.out.2.2.2⟩, rfl⟩, ?_⟩
   ·go_num
   ·show (123 - (intOf (.int .i32 ((k : Int) + 1))).toNat).succ ≤ (123 - (intOf (.int .i32 (k : Int))).toNat)
    simp [intOf]; omega
end Go.Proofs.YtpkcklpjbeginaaGreatDoor
