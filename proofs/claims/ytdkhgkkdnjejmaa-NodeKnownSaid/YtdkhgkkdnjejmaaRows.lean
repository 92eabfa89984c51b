/-
  No cell of these rows narrows 'for every input' (looked for: loops, veiled, ifaces, maps, wideKeys, modest, calm, conditions, laid).
  DERIVED. THE GIVEN ROWS OF THIS SEAT. 10 by the template 'for every input the law returns true; each argument reads behind the call as it read before'; 0 by the template 'total and deterministic' (their statements: YtdkhgkkdnjejmaaTotals.lean).
  GIVEN WITH THE SEED: the statements are not yours to turn. If you find one false, say at which input.
  Laid BY PROGRAM, IN A SANDBOX (cutbox-rows.mjs): the forced cells as the released guide's own fill.sh prints them over the translation dd8fd6b0b8c0ffc7… (all of the seat's roots in one cut). By AI agents, Wed Nov 11 2026. No macro, syntax, notation, axiom, sorry.
-/
import Derived.Test.YtdkhgkkdnjejmaaChecked
import GoSem.Claim
import GoSem.ClaimJoined
import GoSem.ClaimMapViews
import Derived.JoinedTies
import Derived.KernelRfl
namespace Go.Proofs.Ytdkhgkkdnjejmaa
/- THE CELL 'sum', in the pinned program and in every row, IS THE sha256 OF THE DUMP (.gsa) THAT YtdkhgkkdnjejmaaProg.lean LOADS. Nothing in Lean hashes anything: it is a label: what it is worth is what the hold of that sum in a sandbox is worth. -/
noncomputable def Try.pinned : Pinned := { name := "ytdkhgkkdnjejmaa", sum := "dd8fd6b0b8c0ffc7a7704842e7d7e56ca8fc71a11b2670a3b891ff3131bd9579", checked := Try.checked }
namespace Rows
def none {H : Type} : Left H := { results := [], args := [] }

/-- 'corbellaw21.CacheSpreads': WHATEVER THE INPUT: true; the input reads as it did. -/
def cacheSpreadsSpec : ChangeSpec := { name := "cacheSpreads", fn := fun _ => fun
  | [d1, d2] => { results := [.lit (.bool true)], args := [d1, d2] }
  | _ => none }
def cacheSpreadsRow : OpenClaim := { program := "ytdkhgkkdnjejmaa", sum := "dd8fd6b0b8c0ffc7a7704842e7d7e56ca8fc71a11b2670a3b891ff3131bd9579", func := "corbel/corbellaw21.CacheSpreads", spec := "cacheSpreads", unfollowed := true, recurses := true, apart := false }
def CacheSpreadsSaid : Prop := cacheSpreadsRow.holds Try.pinned (OpenSpec.ofChange cacheSpreadsSpec)

/-- ITS FALSE NEIGHBOUR: 'it returns false'. Refute it at one input. -/
def cacheSpreadsWrong : ChangeSpec := { name := "cacheSpreads", fn := fun _ => fun
  | [d1, d2] => { results := [.lit (.bool false)], args := [d1, d2] }
  | _ => none }
def CacheSpreadsWrongFalsely : Prop := cacheSpreadsRow.holds Try.pinned (OpenSpec.ofChange cacheSpreadsWrong)

/-- 'corbellaw8.ChunkKnown': WHATEVER THE INPUT: true; the input reads as it did. -/
def chunkKnownSpec : ChangeSpec := { name := "chunkKnown", fn := fun _ => fun
  | [] => { results := [.lit (.bool true)], args := [] }
  | _ => none }
def chunkKnownRow : OpenClaim := { program := "ytdkhgkkdnjejmaa", sum := "dd8fd6b0b8c0ffc7a7704842e7d7e56ca8fc71a11b2670a3b891ff3131bd9579", func := "corbel/corbellaw8.ChunkKnown", spec := "chunkKnown", unfollowed := true, recurses := true, apart := false }
def ChunkKnownSaid : Prop := chunkKnownRow.holds Try.pinned (OpenSpec.ofChange chunkKnownSpec)

/-- ITS FALSE NEIGHBOUR: 'it returns false'. Refute it at one input. -/
def chunkKnownWrong : ChangeSpec := { name := "chunkKnown", fn := fun _ => fun
  | [] => { results := [.lit (.bool false)], args := [] }
  | _ => none }
def ChunkKnownWrongFalsely : Prop := chunkKnownRow.holds Try.pinned (OpenSpec.ofChange chunkKnownWrong)

/-- 'corbellaw8.ChunkLays': WHATEVER THE INPUT: true; the input reads as it did. -/
def chunkLaysSpec : ChangeSpec := { name := "chunkLays", fn := fun _ => fun
  | [d1, d2, d3, d4, d5, d6, d7, d8, d9] => { results := [.lit (.bool true)], args := [d1, d2, d3, d4, d5, d6, d7, d8, d9] }
  | _ => none }
def chunkLaysRow : OpenClaim := { program := "ytdkhgkkdnjejmaa", sum := "dd8fd6b0b8c0ffc7a7704842e7d7e56ca8fc71a11b2670a3b891ff3131bd9579", func := "corbel/corbellaw8.ChunkLays", spec := "chunkLays", unfollowed := true, recurses := true, apart := false }
def ChunkLaysSaid : Prop := chunkLaysRow.holds Try.pinned (OpenSpec.ofChange chunkLaysSpec)

/-- ITS FALSE NEIGHBOUR: 'it returns false'. Refute it at one input. -/
def chunkLaysWrong : ChangeSpec := { name := "chunkLays", fn := fun _ => fun
  | [d1, d2, d3, d4, d5, d6, d7, d8, d9] => { results := [.lit (.bool false)], args := [d1, d2, d3, d4, d5, d6, d7, d8, d9] }
  | _ => none }
def ChunkLaysWrongFalsely : Prop := chunkLaysRow.holds Try.pinned (OpenSpec.ofChange chunkLaysWrong)

/-- 'corbellaw8.ChunkPlaces': WHATEVER THE INPUT: true; the input reads as it did. -/
def chunkPlacesSpec : ChangeSpec := { name := "chunkPlaces", fn := fun _ => fun
  | [d1, d2, d3, d4] => { results := [.lit (.bool true)], args := [d1, d2, d3, d4] }
  | _ => none }
def chunkPlacesRow : OpenClaim := { program := "ytdkhgkkdnjejmaa", sum := "dd8fd6b0b8c0ffc7a7704842e7d7e56ca8fc71a11b2670a3b891ff3131bd9579", func := "corbel/corbellaw8.ChunkPlaces", spec := "chunkPlaces", unfollowed := true, recurses := true, apart := false }
def ChunkPlacesSaid : Prop := chunkPlacesRow.holds Try.pinned (OpenSpec.ofChange chunkPlacesSpec)

/-- ITS FALSE NEIGHBOUR: 'it returns false'. Refute it at one input. -/
def chunkPlacesWrong : ChangeSpec := { name := "chunkPlaces", fn := fun _ => fun
  | [d1, d2, d3, d4] => { results := [.lit (.bool false)], args := [d1, d2, d3, d4] }
  | _ => none }
def ChunkPlacesWrongFalsely : Prop := chunkPlacesRow.holds Try.pinned (OpenSpec.ofChange chunkPlacesWrong)

/-- 'corbellaw8.ChunkApart': WHATEVER THE INPUT: true; the input reads as it did. -/
def chunkApartSpec : ChangeSpec := { name := "chunkApart", fn := fun _ => fun
  | [d] => { results := [.lit (.bool true)], args := [d] }
  | _ => none }
def chunkApartRow : OpenClaim := { program := "ytdkhgkkdnjejmaa", sum := "dd8fd6b0b8c0ffc7a7704842e7d7e56ca8fc71a11b2670a3b891ff3131bd9579", func := "corbel/corbellaw8.ChunkApart", spec := "chunkApart", unfollowed := true, recurses := true, apart := false }
def ChunkApartSaid : Prop := chunkApartRow.holds Try.pinned (OpenSpec.ofChange chunkApartSpec)

/-- ITS FALSE NEIGHBOUR: 'it returns false'. Refute it at one input. -/
def chunkApartWrong : ChangeSpec := { name := "chunkApart", fn := fun _ => fun
  | [d] => { results := [.lit (.bool false)], args := [d] }
  | _ => none }
def ChunkApartWrongFalsely : Prop := chunkApartRow.holds Try.pinned (OpenSpec.ofChange chunkApartWrong)

/-- 'corbellaw8.ChunkPuts': WHATEVER THE INPUT: true; the input reads as it did. -/
def chunkPutsSpec : ChangeSpec := { name := "chunkPuts", fn := fun _ => fun
  | [d] => { results := [.lit (.bool true)], args := [d] }
  | _ => none }
def chunkPutsRow : OpenClaim := { program := "ytdkhgkkdnjejmaa", sum := "dd8fd6b0b8c0ffc7a7704842e7d7e56ca8fc71a11b2670a3b891ff3131bd9579", func := "corbel/corbellaw8.ChunkPuts", spec := "chunkPuts", unfollowed := true, recurses := true, apart := false }
def ChunkPutsSaid : Prop := chunkPutsRow.holds Try.pinned (OpenSpec.ofChange chunkPutsSpec)

/-- ITS FALSE NEIGHBOUR: 'it returns false'. Refute it at one input. -/
def chunkPutsWrong : ChangeSpec := { name := "chunkPuts", fn := fun _ => fun
  | [d] => { results := [.lit (.bool false)], args := [d] }
  | _ => none }
def ChunkPutsWrongFalsely : Prop := chunkPutsRow.holds Try.pinned (OpenSpec.ofChange chunkPutsWrong)

/-- 'corbellaw8.ChunkTurns': WHATEVER THE INPUT: true; the input reads as it did. -/
def chunkTurnsSpec : ChangeSpec := { name := "chunkTurns", fn := fun _ => fun
  | [d1, d2, d3, d4, d5, d6] => { results := [.lit (.bool true)], args := [d1, d2, d3, d4, d5, d6] }
  | _ => none }
def chunkTurnsRow : OpenClaim := { program := "ytdkhgkkdnjejmaa", sum := "dd8fd6b0b8c0ffc7a7704842e7d7e56ca8fc71a11b2670a3b891ff3131bd9579", func := "corbel/corbellaw8.ChunkTurns", spec := "chunkTurns", unfollowed := true, recurses := true, apart := false }
def ChunkTurnsSaid : Prop := chunkTurnsRow.holds Try.pinned (OpenSpec.ofChange chunkTurnsSpec)

/-- ITS FALSE NEIGHBOUR: 'it returns false'. Refute it at one input. -/
def chunkTurnsWrong : ChangeSpec := { name := "chunkTurns", fn := fun _ => fun
  | [d1, d2, d3, d4, d5, d6] => { results := [.lit (.bool false)], args := [d1, d2, d3, d4, d5, d6] }
  | _ => none }
def ChunkTurnsWrongFalsely : Prop := chunkTurnsRow.holds Try.pinned (OpenSpec.ofChange chunkTurnsWrong)

/-- 'corbellaw10.NodeBoots': WHATEVER THE INPUT: true; the input reads as it did. -/
def nodeBootsSpec : ChangeSpec := { name := "nodeBoots", fn := fun _ => fun
  | [d1, d2] => { results := [.lit (.bool true)], args := [d1, d2] }
  | _ => none }
def nodeBootsRow : OpenClaim := { program := "ytdkhgkkdnjejmaa", sum := "dd8fd6b0b8c0ffc7a7704842e7d7e56ca8fc71a11b2670a3b891ff3131bd9579", func := "corbel/corbellaw10.NodeBoots", spec := "nodeBoots", unfollowed := true, recurses := true, apart := false }
def NodeBootsSaid : Prop := nodeBootsRow.holds Try.pinned (OpenSpec.ofChange nodeBootsSpec)

/-- ITS FALSE NEIGHBOUR: 'it returns false'. Refute it at one input. -/
def nodeBootsWrong : ChangeSpec := { name := "nodeBoots", fn := fun _ => fun
  | [d1, d2] => { results := [.lit (.bool false)], args := [d1, d2] }
  | _ => none }
def NodeBootsWrongFalsely : Prop := nodeBootsRow.holds Try.pinned (OpenSpec.ofChange nodeBootsWrong)

/-- 'corbellaw10.NodeLast': WHATEVER THE INPUT: true; the input reads as it did. -/
def nodeLastSpec : ChangeSpec := { name := "nodeLast", fn := fun _ => fun
  | [d1, d2, d3] => { results := [.lit (.bool true)], args := [d1, d2, d3] }
  | _ => none }
def nodeLastRow : OpenClaim := { program := "ytdkhgkkdnjejmaa", sum := "dd8fd6b0b8c0ffc7a7704842e7d7e56ca8fc71a11b2670a3b891ff3131bd9579", func := "corbel/corbellaw10.NodeLast", spec := "nodeLast", unfollowed := true, recurses := true, apart := false }
def NodeLastSaid : Prop := nodeLastRow.holds Try.pinned (OpenSpec.ofChange nodeLastSpec)

/-- ITS FALSE NEIGHBOUR: 'it returns false'. Refute it at one input. -/
def nodeLastWrong : ChangeSpec := { name := "nodeLast", fn := fun _ => fun
  | [d1, d2, d3] => { results := [.lit (.bool false)], args := [d1, d2, d3] }
  | _ => none }
def NodeLastWrongFalsely : Prop := nodeLastRow.holds Try.pinned (OpenSpec.ofChange nodeLastWrong)

/-- 'corbellaw10.NodeKnown': WHATEVER THE INPUT: true; the input reads as it did. -/
def nodeKnownSpec : ChangeSpec := { name := "nodeKnown", fn := fun _ => fun
  | [] => { results := [.lit (.bool true)], args := [] }
  | _ => none }
def nodeKnownRow : OpenClaim := { program := "ytdkhgkkdnjejmaa", sum := "dd8fd6b0b8c0ffc7a7704842e7d7e56ca8fc71a11b2670a3b891ff3131bd9579", func := "corbel/corbellaw10.NodeKnown", spec := "nodeKnown", unfollowed := true, recurses := true, apart := false }
def NodeKnownSaid : Prop := nodeKnownRow.holds Try.pinned (OpenSpec.ofChange nodeKnownSpec)

/-- ITS FALSE NEIGHBOUR: 'it returns false'. Refute it at one input. -/
def nodeKnownWrong : ChangeSpec := { name := "nodeKnown", fn := fun _ => fun
  | [] => { results := [.lit (.bool false)], args := [] }
  | _ => none }
def NodeKnownWrongFalsely : Prop := nodeKnownRow.holds Try.pinned (OpenSpec.ofChange nodeKnownWrong)

/- THE SECOND FORM. 'bulk': how many values and letters a reading holds, each counted each time it is reached (what is shared counts as often as it is met; a slice's spare places count too). A statement '..UptoSaid' is the law's where the arguments, and the package variables that the reading takes, are together of bulk at most 1048576: NARROWER than '..Said'. Prove '..Said' where nothing that the law and all that it calls make is longer than what came in: it says more and counts as full. Else prove '..UptoSaid'. A law counts once. -/
mutual
def uptoBulk {H : Type} : DataW H → Nat
  | .lit (.string bytes) => bytes.length + 1
  | .lit _ => 1
  | .nil => 1
  | .ptr d => uptoBulk d + 1
  | .slice elems spare => uptoBulkAll elems + uptoBulkAll spare + 1
  | .agg parts => uptoBulkAll parts + 1
  | .iface _ d => uptoBulk d + 1
  | .map entries => uptoBulkEntries entries + 1
  | .held _ => 1
def uptoBulkAll {H : Type} : List (DataW H) → Nat
  | [] => 0
  | d :: r => uptoBulk d + uptoBulkAll r
def uptoBulkEntries {H : Type} : List (Lit × DataW H) → Nat
  | [] => 0
  | x :: r => uptoBulkEntry x + uptoBulkEntries r
def uptoBulkEntry {H : Type} : Lit × DataW H → Nat
  | (.string bytes, d) => bytes.length + uptoBulk d + 1
  | (_, d) => uptoBulk d + 1
 end
def uptoSmall : (H : Type) → List (DataW H) → Bool := fun _ ds => decide (uptoBulkAll ds ≤ 1048576)
def OpenSpec.upto (s : _root_.Go.ChangeSpec) : _root_.Go.OpenSpec := { _root_.Go.OpenSpec.ofChange s with cond := some uptoSmall }

/-- 'corbellaw21.CacheSpreads', WHERE WHAT IT READS IS OF BULK AT MOST 1048576: true; the input reads as it did. -/
def cacheSpreadsUptoRow : OpenClaim := { program := "ytdkhgkkdnjejmaa", sum := "dd8fd6b0b8c0ffc7a7704842e7d7e56ca8fc71a11b2670a3b891ff3131bd9579", func := "corbel/corbellaw21.CacheSpreads", spec := "cacheSpreads", unfollowed := true, recurses := true, apart := false, narrowed := true }
def CacheSpreadsUptoSaid : Prop := cacheSpreadsUptoRow.holds Try.pinned (OpenSpec.upto cacheSpreadsSpec)

/-- 'corbellaw8.ChunkKnown', WHERE WHAT IT READS IS OF BULK AT MOST 1048576: true; the input reads as it did. -/
def chunkKnownUptoRow : OpenClaim := { program := "ytdkhgkkdnjejmaa", sum := "dd8fd6b0b8c0ffc7a7704842e7d7e56ca8fc71a11b2670a3b891ff3131bd9579", func := "corbel/corbellaw8.ChunkKnown", spec := "chunkKnown", unfollowed := true, recurses := true, apart := false, narrowed := true }
def ChunkKnownUptoSaid : Prop := chunkKnownUptoRow.holds Try.pinned (OpenSpec.upto chunkKnownSpec)

/-- 'corbellaw8.ChunkLays', WHERE WHAT IT READS IS OF BULK AT MOST 1048576: true; the input reads as it did. -/
def chunkLaysUptoRow : OpenClaim := { program := "ytdkhgkkdnjejmaa", sum := "dd8fd6b0b8c0ffc7a7704842e7d7e56ca8fc71a11b2670a3b891ff3131bd9579", func := "corbel/corbellaw8.ChunkLays", spec := "chunkLays", unfollowed := true, recurses := true, apart := false, narrowed := true }
def ChunkLaysUptoSaid : Prop := chunkLaysUptoRow.holds Try.pinned (OpenSpec.upto chunkLaysSpec)

/-- 'corbellaw8.ChunkPlaces', WHERE WHAT IT READS IS OF BULK AT MOST 1048576: true; the input reads as it did. -/
def chunkPlacesUptoRow : OpenClaim := { program := "ytdkhgkkdnjejmaa", sum := "dd8fd6b0b8c0ffc7a7704842e7d7e56ca8fc71a11b2670a3b891ff3131bd9579", func := "corbel/corbellaw8.ChunkPlaces", spec := "chunkPlaces", unfollowed := true, recurses := true, apart := false, narrowed := true }
def ChunkPlacesUptoSaid : Prop := chunkPlacesUptoRow.holds Try.pinned (OpenSpec.upto chunkPlacesSpec)

/-- 'corbellaw8.ChunkApart', WHERE WHAT IT READS IS OF BULK AT MOST 1048576: true; the input reads as it did. -/
def chunkApartUptoRow : OpenClaim := { program := "ytdkhgkkdnjejmaa", sum := "dd8fd6b0b8c0ffc7a7704842e7d7e56ca8fc71a11b2670a3b891ff3131bd9579", func := "corbel/corbellaw8.ChunkApart", spec := "chunkApart", unfollowed := true, recurses := true, apart := false, narrowed := true }
def ChunkApartUptoSaid : Prop := chunkApartUptoRow.holds Try.pinned (OpenSpec.upto chunkApartSpec)

/-- 'corbellaw8.ChunkPuts', WHERE WHAT IT READS IS OF BULK AT MOST 1048576: true; the input reads as it did. -/
def chunkPutsUptoRow : OpenClaim := { program := "ytdkhgkkdnjejmaa", sum := "dd8fd6b0b8c0ffc7a7704842e7d7e56ca8fc71a11b2670a3b891ff3131bd9579", func := "corbel/corbellaw8.ChunkPuts", spec := "chunkPuts", unfollowed := true, recurses := true, apart := false, narrowed := true }
def ChunkPutsUptoSaid : Prop := chunkPutsUptoRow.holds Try.pinned (OpenSpec.upto chunkPutsSpec)

/-- 'corbellaw8.ChunkTurns', WHERE WHAT IT READS IS OF BULK AT MOST 1048576: true; the input reads as it did. -/
def chunkTurnsUptoRow : OpenClaim := { program := "ytdkhgkkdnjejmaa", sum := "dd8fd6b0b8c0ffc7a7704842e7d7e56ca8fc71a11b2670a3b891ff3131bd9579", func := "corbel/corbellaw8.ChunkTurns", spec := "chunkTurns", unfollowed := true, recurses := true, apart := false, narrowed := true }
def ChunkTurnsUptoSaid : Prop := chunkTurnsUptoRow.holds Try.pinned (OpenSpec.upto chunkTurnsSpec)

/-- 'corbellaw10.NodeBoots', WHERE WHAT IT READS IS OF BULK AT MOST 1048576: true; the input reads as it did. -/
def nodeBootsUptoRow : OpenClaim := { program := "ytdkhgkkdnjejmaa", sum := "dd8fd6b0b8c0ffc7a7704842e7d7e56ca8fc71a11b2670a3b891ff3131bd9579", func := "corbel/corbellaw10.NodeBoots", spec := "nodeBoots", unfollowed := true, recurses := true, apart := false, narrowed := true }
def NodeBootsUptoSaid : Prop := nodeBootsUptoRow.holds Try.pinned (OpenSpec.upto nodeBootsSpec)

/-- 'corbellaw10.NodeLast', WHERE WHAT IT READS IS OF BULK AT MOST 1048576: true; the input reads as it did. -/
def nodeLastUptoRow : OpenClaim := { program := "ytdkhgkkdnjejmaa", sum := "dd8fd6b0b8c0ffc7a7704842e7d7e56ca8fc71a11b2670a3b891ff3131bd9579", func := "corbel/corbellaw10.NodeLast", spec := "nodeLast", unfollowed := true, recurses := true, apart := false, narrowed := true }
def NodeLastUptoSaid : Prop := nodeLastUptoRow.holds Try.pinned (OpenSpec.upto nodeLastSpec)

/-- 'corbellaw10.NodeKnown', WHERE WHAT IT READS IS OF BULK AT MOST 1048576: true; the input reads as it did. -/
def nodeKnownUptoRow : OpenClaim := { program := "ytdkhgkkdnjejmaa", sum := "dd8fd6b0b8c0ffc7a7704842e7d7e56ca8fc71a11b2670a3b891ff3131bd9579", func := "corbel/corbellaw10.NodeKnown", spec := "nodeKnown", unfollowed := true, recurses := true, apart := false, narrowed := true }
def NodeKnownUptoSaid : Prop := nodeKnownUptoRow.holds Try.pinned (OpenSpec.upto nodeKnownSpec)

end Rows
end Go.Proofs.Ytdkhgkkdnjejmaa
