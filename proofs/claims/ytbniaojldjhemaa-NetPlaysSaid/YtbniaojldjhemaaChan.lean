/- The walks of package net's two functions over a channel: put and take, each a select of one case with a default, in one goroutine. -/
import Derived.Test.YtbniaojldjhemaaRows
import Derived.Conc.LoneSelect
import Derived.KernelRfl
import Derived.Laws.Rows
namespace Go.Proofs.Ytbniaojldjhemaa
open Go.Conc Go.RowKit

/-- A channel's block. -/
def ChanAt (w : World) (c : Nat) (buf : Array Value) (s r : Nat) : Prop := w.heap[c]? = some (.chan 8 buf false s r false)

set_option maxRecDepth 100000 in
theorem put_room (c : Nat) (buf : Array Value) (s r : Nat) (v : Value) (w : World) (h : ChanAt w c buf s r) (hb : buf.size < 8) :
    Calls Try.prog 25 #[.chan (some c), v] w fun e w' => e = .returned (.bool true) ∧ w.setChan c 8 (buf.push v) false (s + 1) r false = w' := by
  refine calls_of_loneTo fun cs => ?_
  have e : Frame.enter Try.prog 25 #[.chan (some c), v] .normal = (base 25).at ⟨#[.chan (some c), v, undef, undef, undef, undef, undef, undef, undef, undef], []⟩ [.code (Try.f25.body.getD .skip)] := by
    simp [Frame.enter, Frame.at, Try.func25, base, Try.f25]
  rw [e]
  refine LoneTo.goes (n := 15) ?_
  simp only [Try.f25, Option.getD_some]
  s_c stepG_seq
  s_reg
  s_op
  s_c stepG_region_end
  s_c stepG_seq
  s_c stepG_seq
  s_reg
  s_op
  s_c stepG_region_end
  s_reg
  s_op
  s_c stepG_region_end
  s_c stepG_seq
  s_reg
  s_stop
  refine LoneTo.step (step_lone_select_send_room (c := c) (cap := 8) (buf := buf) (s := s) (r := r) (tm := false) (stepG_comm (cases := #[scase c v (.slice none 0 0)]) (blocking := false) (shape := .select) (w' := w) rfl rfl (by decide) (by simp [go_sem, execOp, scase, Act.eval])) h hb) ?_
  rw [Frame.finish_at]
  walk_nrm
  refine LoneTo.goes (n := 10) ?_
  s_op
  s_op
  s_c stepG_region_end
  s_c stepG_block
  s_cond true
  s_c stepG_seq
  s_reg
  s_op
  s_c stepG_region_end
  s_c stepG_ret'
  s_stop
  exact LoneTo.done ⟨.returned (.bool true), _, rfl, ⟨rfl, rfl⟩, rfl, rfl, rfl, rfl, _, Try.func25, by simp [results, Try.f25, Frame.at]⟩
set_option maxRecDepth 100000 in
theorem put_full (c : Nat) (buf : Array Value) (s r : Nat) (v : Value) (w : World) (h : ChanAt w c buf s r) (hb : 8 ≤ buf.size) :
    Calls Try.prog 25 #[.chan (some c), v] w fun e w' => e = .returned (.bool false) ∧ w = w' := by
  refine calls_of_loneTo fun cs => ?_
  have e : Frame.enter Try.prog 25 #[.chan (some c), v] .normal = (base 25).at ⟨#[.chan (some c), v, undef, undef, undef, undef, undef, undef, undef, undef], []⟩ [.code (Try.f25.body.getD .skip)] := by
    simp [Frame.enter, Frame.at, Try.func25, base, Try.f25]
  rw [e]
  refine LoneTo.goes (n := 15) ?_
  simp only [Try.f25, Option.getD_some]
  s_c stepG_seq
  s_reg
  s_op
  s_c stepG_region_end
  s_c stepG_seq
  s_c stepG_seq
  s_reg
  s_op
  s_c stepG_region_end
  s_reg
  s_op
  s_c stepG_region_end
  s_c stepG_seq
  s_reg
  s_stop
  refine LoneTo.step (step_lone_select_send_full (c := c) (cap := 8) (buf := buf) (s := s) (r := r) (tm := false) (stepG_comm (cases := #[scase c v (.slice none 0 0)]) (blocking := false) (shape := .select) (w' := w) rfl rfl (by decide) (by simp [go_sem, execOp, scase, Act.eval])) h hb) ?_
  rw [Frame.finish_at]
  walk_nrm
  refine LoneTo.goes (n := 10) ?_
  s_op
  s_op
  s_c stepG_region_end
  s_c stepG_block
  s_cond false
  s_c stepG_seq
  s_reg
  s_op
  s_c stepG_region_end
  s_c stepG_ret'
  s_stop
  exact LoneTo.done ⟨.returned (.bool false), _, rfl, ⟨rfl, rfl⟩, rfl, rfl, rfl, rfl, _, Try.func25, by simp [results, Try.f25, Frame.at]⟩
set_option maxRecDepth 100000 in
theorem take_some (c : Nat) (buf : Array Value) (u : Value) (s r : Nat) (w : World) (h : ChanAt w c buf s r) (hb : 0 < buf.size) (hu : buf.getD 0 undef = u) :
    Calls Try.prog 27 #[.chan (some c)] w fun e w' => e = .returned (.tuple #[u, .bool true]) ∧ w.setChan c 8 (buf.extract 1 buf.size) false s (r + 1) false = w' := by
  refine calls_of_loneTo fun cs => ?_
  have e : Frame.enter Try.prog 27 #[.chan (some c)] .normal = (base 27).at ⟨#[.chan (some c), undef, undef, undef, undef, undef, undef, undef, undef, undef, undef], []⟩ [.code (Try.f27.body.getD .skip)] := by
    simp [Frame.enter, Frame.at, Try.func27, base, Try.f27]
  rw [e]
  refine LoneTo.goes (n := 12) ?_
  simp only [Try.f27, Option.getD_some]
  s_c stepG_seq
  s_reg
  s_op
  s_op
  s_c stepG_region_end
  s_c stepG_seq
  s_reg
  s_op
  s_c stepG_region_end
  s_c stepG_seq
  s_reg
  s_stop
  refine LoneTo.step (step_lone_select_recv_buf (c := c) (cap := 8) (buf := buf) (s := s) (r := r) (tm := false) (closed := false) (stepG_comm (cases := #[rcase c (.slice none 0 0)]) (blocking := false) (shape := .select) (w' := w) rfl rfl (by decide) (by simp [go_sem, execOp, rcase, Act.eval])) h hb) ?_
  rw [Frame.finish_at]
  walk_nrm
  have hu' : buf[0]?.getD undef = u := by simpa using hu
  simp only [hu']
  clear hu hu' e
  refine LoneTo.goes (n := 17) ?_
  s_op
  s_op
  s_c stepG_region_end
  s_c stepG_block
  s_cond true
  s_c stepG_seq
  s_reg
  s_op
  s_op
  s_c stepG_region_end
  s_c stepG_seq
  s_reg
  s_op
  s_op
  s_op
  s_c stepG_region_end
  s_c stepG_ret'
  s_stop
  exact LoneTo.done ⟨.returned (.tuple #[u, .bool true]), _, rfl, ⟨rfl, rfl⟩, rfl, rfl, rfl, rfl, _, Try.func27, by simp [results, Try.f27, Frame.at]⟩
set_option maxRecDepth 100000 in
theorem take_none (c s r : Nat) (w : World) (h : ChanAt w c #[] s r) :
    Calls Try.prog 27 #[.chan (some c)] w fun e w' => e = .returned (.tuple #[.slice none 0 0, .bool false]) ∧ w = w' := by
  refine calls_of_loneTo fun cs => ?_
  have e : Frame.enter Try.prog 27 #[.chan (some c)] .normal = (base 27).at ⟨#[.chan (some c), undef, undef, undef, undef, undef, undef, undef, undef, undef, undef], []⟩ [.code (Try.f27.body.getD .skip)] := by
    simp [Frame.enter, Frame.at, Try.func27, base, Try.f27]
  rw [e]
  refine LoneTo.goes (n := 12) ?_
  simp only [Try.f27, Option.getD_some]
  s_c stepG_seq
  s_reg
  s_op
  s_op
  s_c stepG_region_end
  s_c stepG_seq
  s_reg
  s_op
  s_c stepG_region_end
  s_c stepG_seq
  s_reg
  s_stop
  refine LoneTo.step (step_lone_select_default (c := c) (cap := 8) (s := s) (r := r) (tm := false) (stepG_comm (cases := #[rcase c (.slice none 0 0)]) (blocking := false) (shape := .select) (w' := w) rfl rfl (by decide) (by simp [go_sem, execOp, rcase, Act.eval])) h) ?_
  rw [Frame.finish_at]
  walk_nrm
  refine LoneTo.goes (n := 11) ?_
  s_op
  s_op
  s_c stepG_region_end
  s_c stepG_block
  s_cond false
  s_c stepG_seq
  s_reg
  s_op
  s_op
  s_c stepG_region_end
  s_c stepG_ret'
  s_stop
  exact LoneTo.done ⟨.returned (.tuple #[.slice none 0 0, .bool false]), _, rfl, ⟨rfl, rfl⟩, rfl, rfl, rfl, rfl, _, Try.func27, by simp [results, Try.f27, Frame.at]⟩

/-- In lists. -/
theorem put_list (c : Nat) (l : List Value) (s r : Nat) (v : Value) (w : World) (h : ChanAt w c l.toArray s r) (hb : l.length < 8) :
    Calls Try.prog 25 #[.chan (some c), v] w fun e w' => e = .returned (.bool true) ∧ w.setChan c 8 (l ++ [v]).toArray false (s + 1) r false = w' :=
  (put_room c _ s r v w h (by simpa using hb)).mono fun e w' ⟨h1, h2⟩ => ⟨h1, by simpa using h2⟩
theorem put_none (c : Nat) (l : List Value) (s r : Nat) (v : Value) (w : World) (h : ChanAt w c l.toArray s r) (hb : 8 ≤ l.length) :
    Calls Try.prog 25 #[.chan (some c), v] w fun e w' => e = .returned (.bool false) ∧ w = w' := put_full c _ s r v w h (by simpa using hb)
theorem take_list (c : Nat) (l : List Value) (u : Value) (s r : Nat) (w : World) (h : ChanAt w c (u :: l).toArray s r) :
    Calls Try.prog 27 #[.chan (some c)] w fun e w' => e = .returned (.tuple #[u, .bool true]) ∧ w.setChan c 8 l.toArray false s (r + 1) false = w' :=
  (take_some c _ u s r w h (by simp) (by simp)).mono fun e w' ⟨h1, h2⟩ => ⟨h1, by simpa using h2⟩
end Go.Proofs.Ytbniaojldjhemaa
