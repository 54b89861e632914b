/- reach.drain: for whatever next and the function do (made by genT.py). -/
import Derived.Test.YtekajenmkpobgaaS
import Derived.Deep.LoopGhost
set_option linter.unusedSimpArgs false
set_option linter.unusedVariables false
namespace Go.Proofs.Ytekajenmkpobgaa
open Go.RowKit

theorem method_84 (sb : Nat) (w : World) : (method 224 84 (.pointer (some ⟨sb, 0, none⟩)) "quittance/reach.next").run Try.prog w = .ok (91, .pointer (some ⟨sb, 0, none⟩)) w := by kernel_rfl
set_option maxRecDepth 100000 in
set_option maxHeartbeats 1000000 in
/-- whatever next and the function do: all is done, when next says no more -/
theorem drain_spread (Inv : Nat → World → Prop) (Mid : Nat → Int → World → Prop) (Done : World → Prop) (sb : Nat) (c0 c1 c2 : Value)
    (hnext : ∀ k w, Inv k w → Calls Try.prog 91 #[.pointer (some ⟨sb, 0, none⟩)] w fun e w' => (e = .returned (.tuple #[.int .i64 0, .bool false]) ∧ Done w') ∨ ∃ x, e = .returned (.tuple #[.int .i64 x, .bool true]) ∧ Mid k x w')
    (hdo : ∀ k x w, Mid k x w → Calls Try.prog 53 #[.int .i64 x, c0, c1, c2] w fun e w' => e = .returned (.tuple #[]) ∧ ∃ k', k' < k ∧ Inv k' w') (k : Nat) (w : World) (h0 : Inv k w) :
    Calls Try.prog 29 #[.iface 84 (.pointer (some ⟨sb, 0, none⟩)), .func (.func 53) #[] #[c0, c1, c2]] w fun e w' => e = .returned (.tuple #[]) ∧ Done w' := by
  have hm := method_84 sb
  have HN := Lib.hid hnext
  have HD := Lib.hid hdo
  clear hnext hdo
  go_enter Try.func29, Try.ntmps29
  go_wp2_with fail
  refine (HN.out k w h0).mono ?_
  rintro e w1 (⟨rfl, hd⟩ | ⟨x, rfl, hmid⟩)
  · go_wp2_with fail
    go_loopg [4, 5] 1 (fun n x ok wr => x = .int .i64 0 ∧ ok = .bool false ∧ Done wr)
    case atStart => exact ⟨rfl, rfl, hd⟩
    case round =>
      obtain ⟨rfl, rfl, hd⟩ := hrel
      go_wp2_with fail
      go_end0
      exact ⟨rfl, hd⟩
  · go_wp2_with fail
    go_loopg [4, 5] (k + 1) (fun n x ok wr => (∃ y, 0 < n ∧ x = .int .i64 y ∧ ok = .bool true ∧ Mid (n - 1) y wr) ∨ (x = .int .i64 0 ∧ ok = .bool false ∧ Done wr))
    case atStart => exact .inl ⟨x, by omega, rfl, rfl, hmid⟩
    case round =>
      rcases hrel with ⟨y, hpos, rfl, rfl, hmid⟩ | ⟨rfl, rfl, hd⟩
      · go_wp2_with fail
        refine (HD.out _ y _ hmid).mono ?_
        rintro e w2 ⟨rfl, k', hk', hinv⟩
        go_wp2_with fail
        refine (HN.out k' w2 hinv).mono ?_
        rintro e w3 (⟨rfl, hd⟩ | ⟨z, rfl, hmid⟩)
        · go_wp2_with fail
          go_roundg 0
          case measure => omega
          case rel => exact .inr ⟨rfl, rfl, hd⟩
        · go_wp2_with fail
          go_roundg (k' + 1)
          case measure => omega
          case rel => exact .inl ⟨z, by omega, rfl, rfl, hmid⟩
      · go_wp2_with fail
        go_end0
        exact ⟨rfl, hd⟩

set_option maxRecDepth 100000 in
set_option maxHeartbeats 1000000 in
/-- whatever next and the function do: all is done, when next says no more -/
theorem drain_strong (Inv : Nat → World → Prop) (Mid : Nat → Int → World → Prop) (Done : World → Prop) (sb : Nat) (c0 c1 : Value)
    (hnext : ∀ k w, Inv k w → Calls Try.prog 91 #[.pointer (some ⟨sb, 0, none⟩)] w fun e w' => (e = .returned (.tuple #[.int .i64 0, .bool false]) ∧ Done w') ∨ ∃ x, e = .returned (.tuple #[.int .i64 x, .bool true]) ∧ Mid k x w')
    (hdo : ∀ k x w, Mid k x w → Calls Try.prog 50 #[.int .i64 x, c0, c1] w fun e w' => e = .returned (.tuple #[]) ∧ ∃ k', k' < k ∧ Inv k' w') (k : Nat) (w : World) (h0 : Inv k w) :
    Calls Try.prog 29 #[.iface 84 (.pointer (some ⟨sb, 0, none⟩)), .func (.func 50) #[] #[c0, c1]] w fun e w' => e = .returned (.tuple #[]) ∧ Done w' := by
  have hm := method_84 sb
  have HN := Lib.hid hnext
  have HD := Lib.hid hdo
  clear hnext hdo
  go_enter Try.func29, Try.ntmps29
  go_wp2_with fail
  refine (HN.out k w h0).mono ?_
  rintro e w1 (⟨rfl, hd⟩ | ⟨x, rfl, hmid⟩)
  · go_wp2_with fail
    go_loopg [4, 5] 1 (fun n x ok wr => x = .int .i64 0 ∧ ok = .bool false ∧ Done wr)
    case atStart => exact ⟨rfl, rfl, hd⟩
    case round =>
      obtain ⟨rfl, rfl, hd⟩ := hrel
      go_wp2_with fail
      go_end0
      exact ⟨rfl, hd⟩
  · go_wp2_with fail
    go_loopg [4, 5] (k + 1) (fun n x ok wr => (∃ y, 0 < n ∧ x = .int .i64 y ∧ ok = .bool true ∧ Mid (n - 1) y wr) ∨ (x = .int .i64 0 ∧ ok = .bool false ∧ Done wr))
    case atStart => exact .inl ⟨x, by omega, rfl, rfl, hmid⟩
    case round =>
      rcases hrel with ⟨y, hpos, rfl, rfl, hmid⟩ | ⟨rfl, rfl, hd⟩
      · go_wp2_with fail
        refine (HD.out _ y _ hmid).mono ?_
        rintro e w2 ⟨rfl, k', hk', hinv⟩
        go_wp2_with fail
        refine (HN.out k' w2 hinv).mono ?_
        rintro e w3 (⟨rfl, hd⟩ | ⟨z, rfl, hmid⟩)
        · go_wp2_with fail
          go_roundg 0
          case measure => omega
          case rel => exact .inr ⟨rfl, rfl, hd⟩
        · go_wp2_with fail
          go_roundg (k' + 1)
          case measure => omega
          case rel => exact .inl ⟨z, by omega, rfl, rfl, hmid⟩
      · go_wp2_with fail
        go_end0
        exact ⟨rfl, hd⟩

theorem method_53 (sb : Nat) (w : World) : (method 224 53 (.pointer (some ⟨sb, 0, none⟩)) "quittance/reach.next").run Try.prog w = .ok (82, .pointer (some ⟨sb, 0, none⟩)) w := by kernel_rfl
set_option maxRecDepth 100000 in
set_option maxHeartbeats 1000000 in
/-- whatever next and the function do: all is done, when next says no more -/
theorem drain_order (Inv : Nat → World → Prop) (Mid : Nat → Int → World → Prop) (Done : World → Prop) (sb : Nat) (c0 c1 c2 c3 : Value)
    (hnext : ∀ k w, Inv k w → Calls Try.prog 82 #[.pointer (some ⟨sb, 0, none⟩)] w fun e w' => (e = .returned (.tuple #[.int .i64 0, .bool false]) ∧ Done w') ∨ ∃ x, e = .returned (.tuple #[.int .i64 x, .bool true]) ∧ Mid k x w')
    (hdo : ∀ k x w, Mid k x w → Calls Try.prog 30 #[.int .i64 x, c0, c1, c2, c3] w fun e w' => e = .returned (.tuple #[]) ∧ ∃ k', k' < k ∧ Inv k' w') (k : Nat) (w : World) (h0 : Inv k w) :
    Calls Try.prog 29 #[.iface 53 (.pointer (some ⟨sb, 0, none⟩)), .func (.func 30) #[] #[c0, c1, c2, c3]] w fun e w' => e = .returned (.tuple #[]) ∧ Done w' := by
  have hm := method_53 sb
  have HN := Lib.hid hnext
  have HD := Lib.hid hdo
  clear hnext hdo
  go_enter Try.func29, Try.ntmps29
  go_wp2_with fail
  refine (HN.out k w h0).mono ?_
  rintro e w1 (⟨rfl, hd⟩ | ⟨x, rfl, hmid⟩)
  · go_wp2_with fail
    go_loopg [4, 5] 1 (fun n x ok wr => x = .int .i64 0 ∧ ok = .bool false ∧ Done wr)
    case atStart => exact ⟨rfl, rfl, hd⟩
    case round =>
      obtain ⟨rfl, rfl, hd⟩ := hrel
      go_wp2_with fail
      go_end0
      exact ⟨rfl, hd⟩
  · go_wp2_with fail
    go_loopg [4, 5] (k + 1) (fun n x ok wr => (∃ y, 0 < n ∧ x = .int .i64 y ∧ ok = .bool true ∧ Mid (n - 1) y wr) ∨ (x = .int .i64 0 ∧ ok = .bool false ∧ Done wr))
    case atStart => exact .inl ⟨x, by omega, rfl, rfl, hmid⟩
    case round =>
      rcases hrel with ⟨y, hpos, rfl, rfl, hmid⟩ | ⟨rfl, rfl, hd⟩
      · go_wp2_with fail
        refine (HD.out _ y _ hmid).mono ?_
        rintro e w2 ⟨rfl, k', hk', hinv⟩
        go_wp2_with fail
        refine (HN.out k' w2 hinv).mono ?_
        rintro e w3 (⟨rfl, hd⟩ | ⟨z, rfl, hmid⟩)
        · go_wp2_with fail
          go_roundg 0
          case measure => omega
          case rel => exact .inr ⟨rfl, rfl, hd⟩
        · go_wp2_with fail
          go_roundg (k' + 1)
          case measure => omega
          case rel => exact .inl ⟨z, by omega, rfl, rfl, hmid⟩
      · go_wp2_with fail
        go_end0
        exact ⟨rfl, hd⟩
end Go.Proofs.Ytekajenmkpobgaa
