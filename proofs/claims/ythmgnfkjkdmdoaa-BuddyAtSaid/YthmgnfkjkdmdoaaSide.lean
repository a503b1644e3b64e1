/- The law BuddyFails. -/
import Derived.Test.YthmgnfkjkdmdoaaNear
import Derived.Test.YthmgnfkjkdmdoaaKnown
import Derived.Test.YthmgnfkjkdmdoaaYardfn
set_option linter.unusedSimpArgs false
set_option linter.unusedVariables false
namespace Go.Proofs.Ythmgnfkjkdmdoaa
open Go Go.RowKit Bud

/-- A row of blocks beside the yard. -/
structure SideB (w : World) (yb : Nat) (cs : Array Value) (v : Value) (l : List Blk) : Prop where
  own : OwnB w v l
  off : ∀ k, v.ownBlock = some k → ¬ foot yb cs k
structure SideN (w : World) (yb : Nat) (cs : Array Value) (v : Value) (l : List Nat) : Prop where
  own : OwnN w v l
  off : ∀ k, v.ownBlock = some k → ¬ foot yb cs k
theorem SideB.step {w w' : World} {yb : Nat} {cs cs' : Array Value} {v : Value} {l : List Blk} (h : SideB w yb cs v l) (hs : Step w yb cs w' cs') : SideB w' yb cs' v l :=
  ⟨own_keeps h.own hs.keeps h.off, fun k hk => hs.notFoot (h.own.lt k hk).2 (h.off k hk)⟩
theorem SideN.step {w w' : World} {yb : Nat} {cs cs' : Array Value} {v : Value} {l : List Nat} (h : SideN w yb cs v l) (hs : Step w yb cs w' cs') : SideN w' yb cs' v l :=
  ⟨own_keeps h.own hs.keeps h.off, fun k hk => hs.notFoot (h.own.lt k hk).2 (h.off k hk)⟩
theorem SideB.below {w w' : World} {yb : Nat} {cs : Array Value} {v : Value} {l : List Blk} (h : SideB w yb cs v l) (hb : Below w.heap.size w w') : SideB w' yb cs v l := h.step (Step.of_below hb)
theorem SideN.below {w w' : World} {yb : Nat} {cs : Array Value} {v : Value} {l : List Nat} (h : SideN w yb cs v l) (hb : Below w.heap.size w w') : SideN w' yb cs v l := h.step (Step.of_below hb)
theorem SideB.new {w0 w : World} {yb : Nat} {cs : Array Value} {v : Value} {l : List Blk} {y : Yd} (h : YardAt w0 yb cs y) (ho : OwnB w v l) (hv : ∀ k, v.ownBlock = some k → w0.heap.size ≤ k) : SideB w yb cs v l :=
  ⟨ho, fun k hk hf => by have := hv k hk; have := h.foot_lt k hf; omega⟩
theorem SideN.new {w0 w : World} {yb : Nat} {cs : Array Value} {v : Value} {l : List Nat} {y : Yd} (h : YardAt w0 yb cs y) (ho : OwnN w v l) (hv : ∀ k, v.ownBlock = some k → w0.heap.size ≤ k) : SideN w yb cs v l :=
  ⟨ho, fun k hk hf => by have := hv k hk; have := h.foot_lt k hf; omega⟩

/-- A slice of acts, nil or not. -/
def ActsV (w : World) (v : Value) (n : Nat) (A : Nat → Int × Int × Int) : Prop := n ≤ maxLen ∧ ((v = .slice none 0 0 ∧ n = 0) ∨ ∃ a c, v = .slice (some a) n c ∧ ActsAt w a n A)
theorem yard_any {w : World} {v : Value} {n : Nat} {A : Nat → Int × Int × Int} (h : ActsV w v n A) :
    Calls Try.prog 7 #[v] w fun e w' => ∃ yb cs, e = .returned (.pointer (some ⟨yb, 0, none⟩)) ∧ YardAt w' yb cs (runY A (min n 60)) ∧ (∀ k, foot yb cs k → w.heap.size ≤ k) ∧ Below w.heap.size w w' := by
  obtain ⟨hn, ⟨rfl, rfl⟩ | ⟨a, c, rfl, hA⟩⟩ := h
  · exact yard_nil w A
  · exact yard_calls w a n c A hA hn
/-- A slice of numbers, nil or not. -/
def IntsV (w : World) (ga : Option Addr) (n : Nat) (G : Nat → Int) : Prop := n ≤ maxLen ∧ (n = 0 ∨ ∃ a, ga = some a ∧ IntsAt w a n G)

end Go.Proofs.Ythmgnfkjkdmdoaa
