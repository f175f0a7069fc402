/- The laws of package sched: SchedNil. -/
import Derived.Test.YtpfcghigfkhimaaSched9
namespace Go.Proofs.Ytpfcghigfkhimaa
open Go.RowKit

set_option maxHeartbeats 2000000 in
theorem schedNil_walk (v id : Int) (w : World) :
    Calls Try.prog 6 #[.int .i64 v, .int .i64 id] w (Yes w) := by
  have HN := Lib.hid (fun w => new_any 3 (by decide) (by decide) w)
  have l0 : look [some id, none, none] 0 = some id := rfl
  go_enter Try.func6, Try.ntmps6
  have tg1 : True := trivial
  have tg2 : True := trivial
  have tg3 : True := trivial
  have tg4 : True := trivial
  have tt : True := trivial
  go_wp2_with (first
    | (go_at_call 17; (with_reducible refine (take_nil _ _).mono ?_); rintro e w1 ⟨rfl, rfl⟩)
    | (go_at_call 12; refine (does_nil _ _).mono ?_; rintro e w1 ⟨rfl, rfl⟩)
    | (go_at_call 13; refine (idle_nil _).mono ?_; rintro e w1 ⟨rfl, rfl⟩)
    | (go_at_call 11; refine (acts_nil _ _ _).mono ?_; rintro e w1 ⟨rfl, rfl⟩)
    | (go_at_call 8; refine (HN.out _).mono ?_; rintro e w1 ⟨g, sb, chs, rfl, hb, hl, h1, h2, h3⟩; have H1 := Lib.hid (New.mk hb hl h1 h2 h3); clear hb hl h1 h2 h3)
    | (go_at_call 10; (with_reducible refine (give_nil _ _ _).mono ?_); rintro e w1 ⟨rfl, rfl⟩)
    | (go_at_call 10; have _t := tg1; clear tg1; refine (give_ok g sb chs [none, none, none] 0 id (by decide) (by decide) (by simp) _ (H1.out.later (al1 _ _)).brd).mono ?_; rintro e w2 ⟨rfl, hb, hf⟩; have H2 : Hid (New w w2 g sb chs [some id, none, none]) := Lib.hid ((H1.out.later (al1 _ _)).turn hb hf); clear hb hf)
    | (go_at_call 10; have _t := tg2; clear tg2; refine (give_there g sb chs [some id, none, none] 1 id (by simp [inB]) (by rfl) (by simp) _ H2.out.brd).mono ?_; rintro e w3 ⟨rfl, hb, hf⟩; have H3 : Hid (New w w3 g sb chs [some id, none, none]) := Lib.hid (H2.out.turn hb hf); clear hb hf)
    | (go_at_call 10; have _t := tg3; clear tg3; refine (give_full g sb chs [some id, none, none] 0 id id l0 _ H3.out.brd).mono ?_; rintro e w4 ⟨rfl, hb, hf⟩; have H4 : Hid (New w w4 g sb chs [some id, none, none]) := Lib.hid (H3.out.turn hb hf); clear hb hf)
    | (go_at_call 17; have _t := tt; clear tt; refine (take_some g sb chs [some id, none, none] 0 id l0 _ H4.out.brd).mono ?_; rintro e w5 ⟨rfl, hb, hf⟩; have H5 : Hid (New w w5 g sb chs [none, none, none]) := Lib.hid (H4.out.turn hb hf); clear hb hf)
    | (go_at_call 10; have _t := tg4; clear tg4; refine (give_ok g sb chs [none, none, none] 1 id (by decide) (by decide) (by simp) _ H5.out.brd).mono ?_; rintro e w6 ⟨rfl, hb, hf⟩; have H6 : Hid (New w w6 g sb chs [none, some id, none]) := Lib.hid (H5.out.turn hb hf); clear hb hf)
    | (go_at_call 9; refine (awake_any _).mono ?_; rintro e w7 ⟨rfl, hb⟩; have H7 := Lib.hid (H6.out.low.trans (hb.mono H6.out.low.size)); clear hb))
  go_ret
  exact ⟨rfl, H7.out⟩
end Go.Proofs.Ytpfcghigfkhimaa
