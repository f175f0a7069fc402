/- Package field: the reader: reading, Uint, Int, Text, Read, Left. -/
import Derived.Test.YtapjdcofnigjhaaField4
namespace Go.Proofs.Ytapjdcofnigjhaa
open Go.RowKit
section
variable (g : Nat) (a : Option Addr) (c : Nat) (bs : List UInt8) (at_ : Nat)
theorem readU_ok (v : Value) (at2 : Nat) (w : World) (h : Rdr w g a c bs at_) (hi : Calls Try.prog 47 #[.pointer (some ⟨g, 0, none⟩)] w (InnerR w g a c bs v 0 at2)) :
    Calls Try.prog 46 #[.pointer (some ⟨g, 0, none⟩), .func (.func 47) #[.pointer (some ⟨g, 0, none⟩)] #[]] w (OuterR w g a c bs v 0 at2) := by
  have HI := Lib.hid hi
  have r1 := h.i
  clear h hi
  go_enter Try.func46, Try.ntmps46
  go_wp2_with (go_at_call 47; refine HI.out.mono ?_; rintro e w1 ⟨rfl, ⟨m, hr, hm⟩, hf⟩; obtain rfl := hm rfl; have H1 := Lib.hid (And.intro hr hf); clear hr hf hm)
  go_ret2
  exact ⟨rfl, H1.out.1, H1.out.2⟩
theorem readU_no (v : Value) (err : Int) (he : err ≠ 0) (at2 : Nat) (w : World) (h : Rdr w g a c bs at_) (hi : Calls Try.prog 47 #[.pointer (some ⟨g, 0, none⟩)] w (InnerR w g a c bs v err at2)) :
    Calls Try.prog 46 #[.pointer (some ⟨g, 0, none⟩), .func (.func 47) #[.pointer (some ⟨g, 0, none⟩)] #[]] w (OuterR w g a c bs (.int .i64 0) err at_) := by
  have HI := Lib.hid hi
  have r1 := h.i
  have hle := h.le
  have he' : (err == 0) = false := by simpa using he
  have he2 : (err != 0) = true := by simpa using he
  clear h hi he
  go_enter Try.func46, Try.ntmps46
  go_wp2_with (first
    | (go_at_call 47; refine HI.out.mono ?_; rintro e w1 ⟨rfl, ⟨m, hr, hm⟩, hf⟩; have H1 := Lib.hid (And.intro hr hf); clear hr hf hm)
    | (go_at_call 51; refine (back_any g a c bs at_ m hle _ H1.out.1).mono ?_; rintro e w2 ⟨rfl, hr, hf⟩; have H2 := Lib.hid (And.intro hr (atF_trans H1.out.2 hf)); clear hr hf))
  go_ret2
  exact ⟨rfl, H2.out.1, H2.out.2⟩
theorem readI_ok (v : Value) (at2 : Nat) (w : World) (h : Rdr w g a c bs at_) (hi : Calls Try.prog 48 #[.pointer (some ⟨g, 0, none⟩)] w (InnerR w g a c bs v 0 at2)) :
    Calls Try.prog 46 #[.pointer (some ⟨g, 0, none⟩), .func (.func 48) #[.pointer (some ⟨g, 0, none⟩)] #[]] w (OuterR w g a c bs v 0 at2) := by
  have HI := Lib.hid hi
  have r1 := h.i
  clear h hi
  go_enter Try.func46, Try.ntmps46
  go_wp2_with (go_at_call 48; refine HI.out.mono ?_; rintro e w1 ⟨rfl, ⟨m, hr, hm⟩, hf⟩; obtain rfl := hm rfl; have H1 := Lib.hid (And.intro hr hf); clear hr hf hm)
  go_ret2
  exact ⟨rfl, H1.out.1, H1.out.2⟩
theorem readI_no (v : Value) (err : Int) (he : err ≠ 0) (at2 : Nat) (w : World) (h : Rdr w g a c bs at_) (hi : Calls Try.prog 48 #[.pointer (some ⟨g, 0, none⟩)] w (InnerR w g a c bs v err at2)) :
    Calls Try.prog 46 #[.pointer (some ⟨g, 0, none⟩), .func (.func 48) #[.pointer (some ⟨g, 0, none⟩)] #[]] w (OuterR w g a c bs (.int .i64 0) err at_) := by
  have HI := Lib.hid hi
  have r1 := h.i
  have hle := h.le
  have he' : (err == 0) = false := by simpa using he
  have he2 : (err != 0) = true := by simpa using he
  clear h hi he
  go_enter Try.func46, Try.ntmps46
  go_wp2_with (first
    | (go_at_call 48; refine HI.out.mono ?_; rintro e w1 ⟨rfl, ⟨m, hr, hm⟩, hf⟩; have H1 := Lib.hid (And.intro hr hf); clear hr hf hm)
    | (go_at_call 51; refine (back_any g a c bs at_ m hle _ H1.out.1).mono ?_; rintro e w2 ⟨rfl, hr, hf⟩; have H2 := Lib.hid (And.intro hr (atF_trans H1.out.2 hf)); clear hr hf))
  go_ret2
  exact ⟨rfl, H2.out.1, H2.out.2⟩
theorem readT_ok (most : Int) (v : Value) (at2 : Nat) (w : World) (h : Rdr w g a c bs at_) (hi : Calls Try.prog 50 #[.agg #[.pointer (some ⟨g, 0, none⟩), .int .i64 most]] w (InnerR w g a c bs v 0 at2)) :
    Calls Try.prog 49 #[.pointer (some ⟨g, 0, none⟩), .func (.func 50) #[.agg #[.pointer (some ⟨g, 0, none⟩), .int .i64 most]] #[]] w (OuterR w g a c bs v 0 at2) := by
  have HI := Lib.hid hi
  have r1 := h.i
  clear h hi
  go_enter Try.func49, Try.ntmps49
  go_wp2_with (go_at_call 50; refine HI.out.mono ?_; rintro e w1 ⟨rfl, ⟨m, hr, hm⟩, hf⟩; obtain rfl := hm rfl; have H1 := Lib.hid (And.intro hr hf); clear hr hf hm)
  go_ret2
  exact ⟨rfl, H1.out.1, H1.out.2⟩
theorem readT_no (most : Int) (v : Value) (err : Int) (he : err ≠ 0) (at2 : Nat) (w : World) (h : Rdr w g a c bs at_) (hi : Calls Try.prog 50 #[.agg #[.pointer (some ⟨g, 0, none⟩), .int .i64 most]] w (InnerR w g a c bs v err at2)) :
    Calls Try.prog 49 #[.pointer (some ⟨g, 0, none⟩), .func (.func 50) #[.agg #[.pointer (some ⟨g, 0, none⟩), .int .i64 most]] #[]] w (OuterR w g a c bs (.string ByteArray.empty) err at_) := by
  have HI := Lib.hid hi
  have r1 := h.i
  have hle := h.le
  have he' : (err == 0) = false := by simpa using he
  have he2 : (err != 0) = true := by simpa using he
  clear h hi he
  go_enter Try.func49, Try.ntmps49
  go_wp2_with (first
    | (go_at_call 50; refine HI.out.mono ?_; rintro e w1 ⟨rfl, ⟨m, hr, hm⟩, hf⟩; have H1 := Lib.hid (And.intro hr hf); clear hr hf hm)
    | (go_at_call 51; refine (back_any g a c bs at_ m hle _ H1.out.1).mono ?_; rintro e w2 ⟨rfl, hr, hf⟩; have H2 := Lib.hid (And.intro hr (atF_trans H1.out.2 hf)); clear hr hf))
  go_ret2
  exact ⟨rfl, H2.out.1, H2.out.2⟩
end
end Go.Proofs.Ytapjdcofnigjhaa
