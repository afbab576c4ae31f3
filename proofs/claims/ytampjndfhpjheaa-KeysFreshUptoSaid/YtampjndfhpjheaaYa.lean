/- Plain: what keys spell, as package keys reads them; its tables. No program. -/
namespace Go.Proofs.Ytampjndfhpjheaa
/-- what a row of keys is bound to; own: the operator's own rows -/
structure Bd where
  verb : Int
  move : Int
  arg : Int
  more : Bool
  own : List (List Int)
/-- register, count, verb, motion, argument -/
structure Cmd where
  reg : Int
  count : Int
  verb : Int
  move : Int
  arg : Int
theorem Cmd.eq_iff (a b : Cmd) : a = b ↔ a.reg = b.reg ∧ a.count = b.count ∧ a.verb = b.verb ∧ a.move = b.move ∧ a.arg = b.arg := by
  cases a; cases b; simp
instance : DecidableEq Cmd := fun a b => decidable_of_iff _ (Cmd.eq_iff a b).symm
def cmd0 : Cmd := ⟨0, 0, 0, 0, 0⟩
abbrev Rows := List (List Int × Bd)

def motionsL : List (List Int × Int × Int × Int) := [
  ([104, 32, 8], 0, 1, 0),
  ([108, 32, 115, 112, 97, 99, 101], 0, 2, 0),
  ([48], 0, 3, 0),
  ([94], 0, 4, 0),
  ([36], 0, 5, 0),
  ([124], 0, 6, 0),
  ([106], 0, 11, 0),
  ([107], 0, 12, 0),
  ([43, 32, 13], 0, 13, 0),
  ([45], 0, 14, 0),
  ([95], 0, 15, 0),
  ([71], 0, 16, 0),
  ([103, 103], 0, 17, 0),
  ([119], 0, 21, 0),
  ([98], 0, 22, 0),
  ([101], 0, 23, 0),
  ([103, 101], 0, 24, 0),
  ([87], 0, 25, 0),
  ([66], 0, 26, 0),
  ([69], 0, 27, 0),
  ([103, 69], 0, 28, 0),
  ([125], 0, 31, 0),
  ([123], 0, 32, 0),
  ([59], 0, 41, 0),
  ([44], 0, 42, 0),
  ([47], 0, 43, 0),
  ([63], 0, 44, 0),
  ([110], 0, 45, 0),
  ([78], 0, 46, 0),
  ([42], 0, 47, 0),
  ([35], 0, 48, 0),
  ([72], 0, 51, 0),
  ([77], 0, 52, 0),
  ([76], 0, 53, 0),
  ([37], 0, 33, 0)]
def seeksL : List (List Int × Int × Int × Int) := [
  ([102], 0, 7, 0),
  ([70], 0, 8, 0),
  ([116], 0, 9, 0),
  ([84], 0, 10, 0),
  ([96], 0, 49, 0),
  ([39], 0, 50, 0)]
def objectsL : List (List Int × Int × Int × Int) := [
  ([119], 0, 61, 0),
  ([87], 0, 63, 0),
  ([112], 0, 69, 0),
  ([34], 0, 65, 34),
  ([39], 0, 65, 39),
  ([96], 0, 65, 96),
  ([40, 32, 41, 32, 98], 0, 67, 40),
  ([91, 32, 93], 0, 67, 91),
  ([123, 32, 125, 32, 66], 0, 67, 123),
  ([60, 32, 62], 0, 67, 60)]
def operatorsL : List (List Int × Int × Int × Int) := [
  ([100], 2, 0, 0),
  ([99], 3, 0, 0),
  ([121], 4, 0, 0),
  ([62], 8, 0, 0),
  ([60], 9, 0, 0),
  ([103, 85], 5, 0, 0),
  ([103, 117], 6, 0, 0),
  ([103, 126], 7, 0, 0)]
def scrollsL : List (List Int × Int × Int × Int) := [
  ([122, 116], 38, 0, 0),
  ([122, 122], 39, 0, 0),
  ([122, 98], 40, 0, 0),
  ([6], 32, 0, 0),
  ([2], 33, 0, 0),
  ([4], 34, 0, 0),
  ([21], 35, 0, 0),
  ([5], 36, 0, 0),
  ([25], 37, 0, 0)]
def namedL : List (List Int × Int × Int × Int) := [
  ([114], 16, 0, 0),
  ([113], 28, 0, 0),
  ([64], 29, 0, 0),
  ([109], 30, 0, 0)]
def bothL : List (List Int × Int × Int × Int) := [
  ([112], 18, 0, 0),
  ([80], 19, 0, 0),
  ([74], 20, 0, 0),
  ([103, 74], 21, 0, 0),
  ([118], 26, 0, 0),
  ([86], 27, 0, 0),
  ([58], 31, 0, 0)]
def ofNormalL : List (List Int × Int × Int × Int) := [
  ([120], 2, 2, 0),
  ([88], 2, 1, 0),
  ([68], 2, 5, 0),
  ([115], 3, 2, 0),
  ([83], 3, 60, 0),
  ([67], 3, 5, 0),
  ([89], 4, 60, 0),
  ([105], 10, 0, 0),
  ([97], 11, 0, 0),
  ([73], 12, 0, 0),
  ([65], 13, 0, 0),
  ([111], 14, 0, 0),
  ([79], 15, 0, 0),
  ([82], 17, 0, 0),
  ([126], 22, 0, 0),
  ([117], 23, 0, 0),
  ([18], 24, 0, 0),
  ([46], 25, 0, 0),
  ([38], 43, 0, 0),
  ([103, 118], 44, 0, 0),
  ([90, 90], 41, 0, 0),
  ([90, 81], 42, 0, 0)]
def ofSelectionL : List (List Int × Int × Int × Int) := [
  ([100, 32, 120], 2, 0, 0),
  ([99, 32, 115], 3, 0, 0),
  ([121], 4, 0, 0),
  ([62], 8, 0, 0),
  ([60], 9, 0, 0),
  ([85, 32, 103, 85], 5, 0, 0),
  ([117, 32, 103, 117], 6, 0, 0),
  ([126, 32, 103, 126], 7, 0, 0),
  ([111], 45, 0, 0)]
def normalT : List (List Int × Bd) := [
  ([104], ⟨1, 1, 0, false, []⟩), ([8], ⟨1, 1, 0, false, []⟩), ([108], ⟨1, 2, 0, false, []⟩),
  ([32], ⟨1, 2, 0, false, []⟩), ([48], ⟨1, 3, 0, false, []⟩), ([94], ⟨1, 4, 0, false, []⟩),
  ([36], ⟨1, 5, 0, false, []⟩), ([124], ⟨1, 6, 0, false, []⟩), ([106], ⟨1, 11, 0, false, []⟩),
  ([107], ⟨1, 12, 0, false, []⟩), ([43], ⟨1, 13, 0, false, []⟩), ([13], ⟨1, 13, 0, false, []⟩),
  ([45], ⟨1, 14, 0, false, []⟩), ([95], ⟨1, 15, 0, false, []⟩), ([71], ⟨1, 16, 0, false, []⟩),
  ([103, 103], ⟨1, 17, 0, false, []⟩), ([119], ⟨1, 21, 0, false, []⟩), ([98], ⟨1, 22, 0, false, []⟩),
  ([101], ⟨1, 23, 0, false, []⟩), ([103, 101], ⟨1, 24, 0, false, []⟩), ([87], ⟨1, 25, 0, false, []⟩),
  ([66], ⟨1, 26, 0, false, []⟩), ([69], ⟨1, 27, 0, false, []⟩), ([103, 69], ⟨1, 28, 0, false, []⟩),
  ([125], ⟨1, 31, 0, false, []⟩), ([123], ⟨1, 32, 0, false, []⟩), ([59], ⟨1, 41, 0, false, []⟩),
  ([44], ⟨1, 42, 0, false, []⟩), ([47], ⟨1, 43, 0, false, []⟩), ([63], ⟨1, 44, 0, false, []⟩),
  ([110], ⟨1, 45, 0, false, []⟩), ([78], ⟨1, 46, 0, false, []⟩), ([42], ⟨1, 47, 0, false, []⟩),
  ([35], ⟨1, 48, 0, false, []⟩), ([72], ⟨1, 51, 0, false, []⟩), ([77], ⟨1, 52, 0, false, []⟩),
  ([76], ⟨1, 53, 0, false, []⟩), ([37], ⟨1, 33, 0, false, []⟩), ([102], ⟨1, 7, 0, true, []⟩),
  ([70], ⟨1, 8, 0, true, []⟩), ([116], ⟨1, 9, 0, true, []⟩), ([84], ⟨1, 10, 0, true, []⟩),
  ([96], ⟨1, 49, 0, true, []⟩), ([39], ⟨1, 50, 0, true, []⟩), ([122, 116], ⟨38, 0, 0, false, []⟩),
  ([122, 122], ⟨39, 0, 0, false, []⟩), ([122, 98], ⟨40, 0, 0, false, []⟩), ([6], ⟨32, 0, 0, false, []⟩),
  ([2], ⟨33, 0, 0, false, []⟩), ([4], ⟨34, 0, 0, false, []⟩), ([21], ⟨35, 0, 0, false, []⟩),
  ([5], ⟨36, 0, 0, false, []⟩), ([25], ⟨37, 0, 0, false, []⟩), ([112], ⟨18, 0, 0, false, []⟩),
  ([80], ⟨19, 0, 0, false, []⟩), ([74], ⟨20, 0, 0, false, []⟩), ([103, 74], ⟨21, 0, 0, false, []⟩),
  ([118], ⟨26, 0, 0, false, []⟩), ([86], ⟨27, 0, 0, false, []⟩), ([58], ⟨31, 0, 0, false, []⟩),
  ([114], ⟨16, 0, 0, true, []⟩), ([113], ⟨28, 0, 0, true, []⟩), ([64], ⟨29, 0, 0, true, []⟩),
  ([109], ⟨30, 0, 0, true, []⟩), ([120], ⟨2, 2, 0, false, []⟩), ([88], ⟨2, 1, 0, false, []⟩),
  ([68], ⟨2, 5, 0, false, []⟩), ([115], ⟨3, 2, 0, false, []⟩), ([83], ⟨3, 60, 0, false, []⟩),
  ([67], ⟨3, 5, 0, false, []⟩), ([89], ⟨4, 60, 0, false, []⟩), ([105], ⟨10, 0, 0, false, []⟩),
  ([97], ⟨11, 0, 0, false, []⟩), ([73], ⟨12, 0, 0, false, []⟩), ([65], ⟨13, 0, 0, false, []⟩),
  ([111], ⟨14, 0, 0, false, []⟩), ([79], ⟨15, 0, 0, false, []⟩), ([82], ⟨17, 0, 0, false, []⟩),
  ([126], ⟨22, 0, 0, false, []⟩), ([117], ⟨23, 0, 0, false, []⟩), ([18], ⟨24, 0, 0, false, []⟩),
  ([46], ⟨25, 0, 0, false, []⟩), ([38], ⟨43, 0, 0, false, []⟩), ([103, 118], ⟨44, 0, 0, false, []⟩),
  ([90, 90], ⟨41, 0, 0, false, []⟩), ([90, 81], ⟨42, 0, 0, false, []⟩), ([100], ⟨2, 0, 0, false, [[100]]⟩),
  ([99], ⟨3, 0, 0, false, [[99]]⟩), ([121], ⟨4, 0, 0, false, [[121]]⟩), ([62], ⟨8, 0, 0, false, [[62]]⟩),
  ([60], ⟨9, 0, 0, false, [[60]]⟩), ([103, 85], ⟨5, 0, 0, false, [[85], [103, 85]]⟩), ([103, 117], ⟨6, 0, 0, false, [[117], [103, 117]]⟩),
  ([103, 126], ⟨7, 0, 0, false, [[126], [103, 126]]⟩)]
def selectedT : List (List Int × Bd) := [
  ([104], ⟨1, 1, 0, false, []⟩), ([8], ⟨1, 1, 0, false, []⟩), ([108], ⟨1, 2, 0, false, []⟩),
  ([32], ⟨1, 2, 0, false, []⟩), ([48], ⟨1, 3, 0, false, []⟩), ([94], ⟨1, 4, 0, false, []⟩),
  ([36], ⟨1, 5, 0, false, []⟩), ([124], ⟨1, 6, 0, false, []⟩), ([106], ⟨1, 11, 0, false, []⟩),
  ([107], ⟨1, 12, 0, false, []⟩), ([43], ⟨1, 13, 0, false, []⟩), ([13], ⟨1, 13, 0, false, []⟩),
  ([45], ⟨1, 14, 0, false, []⟩), ([95], ⟨1, 15, 0, false, []⟩), ([71], ⟨1, 16, 0, false, []⟩),
  ([103, 103], ⟨1, 17, 0, false, []⟩), ([119], ⟨1, 21, 0, false, []⟩), ([98], ⟨1, 22, 0, false, []⟩),
  ([101], ⟨1, 23, 0, false, []⟩), ([103, 101], ⟨1, 24, 0, false, []⟩), ([87], ⟨1, 25, 0, false, []⟩),
  ([66], ⟨1, 26, 0, false, []⟩), ([69], ⟨1, 27, 0, false, []⟩), ([103, 69], ⟨1, 28, 0, false, []⟩),
  ([125], ⟨1, 31, 0, false, []⟩), ([123], ⟨1, 32, 0, false, []⟩), ([59], ⟨1, 41, 0, false, []⟩),
  ([44], ⟨1, 42, 0, false, []⟩), ([47], ⟨1, 43, 0, false, []⟩), ([63], ⟨1, 44, 0, false, []⟩),
  ([110], ⟨1, 45, 0, false, []⟩), ([78], ⟨1, 46, 0, false, []⟩), ([42], ⟨1, 47, 0, false, []⟩),
  ([35], ⟨1, 48, 0, false, []⟩), ([72], ⟨1, 51, 0, false, []⟩), ([77], ⟨1, 52, 0, false, []⟩),
  ([76], ⟨1, 53, 0, false, []⟩), ([37], ⟨1, 33, 0, false, []⟩), ([102], ⟨1, 7, 0, true, []⟩),
  ([70], ⟨1, 8, 0, true, []⟩), ([116], ⟨1, 9, 0, true, []⟩), ([84], ⟨1, 10, 0, true, []⟩),
  ([96], ⟨1, 49, 0, true, []⟩), ([39], ⟨1, 50, 0, true, []⟩), ([122, 116], ⟨38, 0, 0, false, []⟩),
  ([122, 122], ⟨39, 0, 0, false, []⟩), ([122, 98], ⟨40, 0, 0, false, []⟩), ([6], ⟨32, 0, 0, false, []⟩),
  ([2], ⟨33, 0, 0, false, []⟩), ([4], ⟨34, 0, 0, false, []⟩), ([21], ⟨35, 0, 0, false, []⟩),
  ([5], ⟨36, 0, 0, false, []⟩), ([25], ⟨37, 0, 0, false, []⟩), ([112], ⟨18, 0, 0, false, []⟩),
  ([80], ⟨19, 0, 0, false, []⟩), ([74], ⟨20, 0, 0, false, []⟩), ([103, 74], ⟨21, 0, 0, false, []⟩),
  ([118], ⟨26, 0, 0, false, []⟩), ([86], ⟨27, 0, 0, false, []⟩), ([58], ⟨31, 0, 0, false, []⟩),
  ([114], ⟨16, 0, 0, true, []⟩), ([113], ⟨28, 0, 0, true, []⟩), ([64], ⟨29, 0, 0, true, []⟩),
  ([109], ⟨30, 0, 0, true, []⟩), ([100], ⟨2, 0, 0, false, []⟩), ([120], ⟨2, 0, 0, false, []⟩),
  ([99], ⟨3, 0, 0, false, []⟩), ([115], ⟨3, 0, 0, false, []⟩), ([121], ⟨4, 0, 0, false, []⟩),
  ([62], ⟨8, 0, 0, false, []⟩), ([60], ⟨9, 0, 0, false, []⟩), ([85], ⟨5, 0, 0, false, []⟩),
  ([103, 85], ⟨5, 0, 0, false, []⟩), ([117], ⟨6, 0, 0, false, []⟩), ([103, 117], ⟨6, 0, 0, false, []⟩),
  ([126], ⟨7, 0, 0, false, []⟩), ([103, 126], ⟨7, 0, 0, false, []⟩), ([111], ⟨45, 0, 0, false, []⟩),
  ([105, 119], ⟨1, 61, 0, false, []⟩), ([97, 119], ⟨1, 62, 0, false, []⟩), ([105, 87], ⟨1, 63, 0, false, []⟩),
  ([97, 87], ⟨1, 64, 0, false, []⟩), ([105, 112], ⟨1, 69, 0, false, []⟩), ([97, 112], ⟨1, 70, 0, false, []⟩),
  ([105, 34], ⟨1, 65, 34, false, []⟩), ([97, 34], ⟨1, 66, 34, false, []⟩), ([105, 39], ⟨1, 65, 39, false, []⟩),
  ([97, 39], ⟨1, 66, 39, false, []⟩), ([105, 96], ⟨1, 65, 96, false, []⟩), ([97, 96], ⟨1, 66, 96, false, []⟩),
  ([105, 40], ⟨1, 67, 40, false, []⟩), ([97, 40], ⟨1, 68, 40, false, []⟩), ([105, 41], ⟨1, 67, 40, false, []⟩),
  ([97, 41], ⟨1, 68, 40, false, []⟩), ([105, 98], ⟨1, 67, 40, false, []⟩), ([97, 98], ⟨1, 68, 40, false, []⟩),
  ([105, 91], ⟨1, 67, 91, false, []⟩), ([97, 91], ⟨1, 68, 91, false, []⟩), ([105, 93], ⟨1, 67, 91, false, []⟩),
  ([97, 93], ⟨1, 68, 91, false, []⟩), ([105, 123], ⟨1, 67, 123, false, []⟩), ([97, 123], ⟨1, 68, 123, false, []⟩),
  ([105, 125], ⟨1, 67, 123, false, []⟩), ([97, 125], ⟨1, 68, 123, false, []⟩), ([105, 66], ⟨1, 67, 123, false, []⟩),
  ([97, 66], ⟨1, 68, 123, false, []⟩), ([105, 60], ⟨1, 67, 60, false, []⟩), ([97, 60], ⟨1, 68, 60, false, []⟩),
  ([105, 62], ⟨1, 67, 60, false, []⟩), ([97, 62], ⟨1, 68, 60, false, []⟩)]
def behindT : List (List Int × Bd) := [
  ([104], ⟨1, 1, 0, false, []⟩), ([8], ⟨1, 1, 0, false, []⟩), ([108], ⟨1, 2, 0, false, []⟩),
  ([32], ⟨1, 2, 0, false, []⟩), ([48], ⟨1, 3, 0, false, []⟩), ([94], ⟨1, 4, 0, false, []⟩),
  ([36], ⟨1, 5, 0, false, []⟩), ([124], ⟨1, 6, 0, false, []⟩), ([106], ⟨1, 11, 0, false, []⟩),
  ([107], ⟨1, 12, 0, false, []⟩), ([43], ⟨1, 13, 0, false, []⟩), ([13], ⟨1, 13, 0, false, []⟩),
  ([45], ⟨1, 14, 0, false, []⟩), ([95], ⟨1, 15, 0, false, []⟩), ([71], ⟨1, 16, 0, false, []⟩),
  ([103, 103], ⟨1, 17, 0, false, []⟩), ([119], ⟨1, 21, 0, false, []⟩), ([98], ⟨1, 22, 0, false, []⟩),
  ([101], ⟨1, 23, 0, false, []⟩), ([103, 101], ⟨1, 24, 0, false, []⟩), ([87], ⟨1, 25, 0, false, []⟩),
  ([66], ⟨1, 26, 0, false, []⟩), ([69], ⟨1, 27, 0, false, []⟩), ([103, 69], ⟨1, 28, 0, false, []⟩),
  ([125], ⟨1, 31, 0, false, []⟩), ([123], ⟨1, 32, 0, false, []⟩), ([59], ⟨1, 41, 0, false, []⟩),
  ([44], ⟨1, 42, 0, false, []⟩), ([47], ⟨1, 43, 0, false, []⟩), ([63], ⟨1, 44, 0, false, []⟩),
  ([110], ⟨1, 45, 0, false, []⟩), ([78], ⟨1, 46, 0, false, []⟩), ([42], ⟨1, 47, 0, false, []⟩),
  ([35], ⟨1, 48, 0, false, []⟩), ([72], ⟨1, 51, 0, false, []⟩), ([77], ⟨1, 52, 0, false, []⟩),
  ([76], ⟨1, 53, 0, false, []⟩), ([37], ⟨1, 33, 0, false, []⟩), ([102], ⟨1, 7, 0, true, []⟩),
  ([70], ⟨1, 8, 0, true, []⟩), ([116], ⟨1, 9, 0, true, []⟩), ([84], ⟨1, 10, 0, true, []⟩),
  ([96], ⟨1, 49, 0, true, []⟩), ([39], ⟨1, 50, 0, true, []⟩), ([105, 119], ⟨1, 61, 0, false, []⟩),
  ([97, 119], ⟨1, 62, 0, false, []⟩), ([105, 87], ⟨1, 63, 0, false, []⟩), ([97, 87], ⟨1, 64, 0, false, []⟩),
  ([105, 112], ⟨1, 69, 0, false, []⟩), ([97, 112], ⟨1, 70, 0, false, []⟩), ([105, 34], ⟨1, 65, 34, false, []⟩),
  ([97, 34], ⟨1, 66, 34, false, []⟩), ([105, 39], ⟨1, 65, 39, false, []⟩), ([97, 39], ⟨1, 66, 39, false, []⟩),
  ([105, 96], ⟨1, 65, 96, false, []⟩), ([97, 96], ⟨1, 66, 96, false, []⟩), ([105, 40], ⟨1, 67, 40, false, []⟩),
  ([97, 40], ⟨1, 68, 40, false, []⟩), ([105, 41], ⟨1, 67, 40, false, []⟩), ([97, 41], ⟨1, 68, 40, false, []⟩),
  ([105, 98], ⟨1, 67, 40, false, []⟩), ([97, 98], ⟨1, 68, 40, false, []⟩), ([105, 91], ⟨1, 67, 91, false, []⟩),
  ([97, 91], ⟨1, 68, 91, false, []⟩), ([105, 93], ⟨1, 67, 91, false, []⟩), ([97, 93], ⟨1, 68, 91, false, []⟩),
  ([105, 123], ⟨1, 67, 123, false, []⟩), ([97, 123], ⟨1, 68, 123, false, []⟩), ([105, 125], ⟨1, 67, 123, false, []⟩),
  ([97, 125], ⟨1, 68, 123, false, []⟩), ([105, 66], ⟨1, 67, 123, false, []⟩), ([97, 66], ⟨1, 68, 123, false, []⟩),
  ([105, 60], ⟨1, 67, 60, false, []⟩), ([97, 60], ⟨1, 68, 60, false, []⟩), ([105, 62], ⟨1, 67, 60, false, []⟩),
  ([97, 62], ⟨1, 68, 60, false, []⟩)]

/-- the rows of keys of a line's text -/
def flushP (k : List Int) : List (List Int) :=
  if k.length = 5 ∧ k[0]? = some 115 ∧ k[1]? = some 112 then [[32]] else if k = [] then [] else [k]
def eachP : List Int → List Int → List (List Int)
  | k, [] => flushP k
  | k, x :: t => if x = 32 then flushP k ++ eachP [] t else eachP (k ++ [x]) t
def lineB (x : List Int × Int × Int × Int) : Bd := ⟨x.2.1, x.2.2.1, x.2.2.2, false, []⟩
def addP (f : Bd → Bd) (l : List (List Int × Int × Int × Int)) : Rows := l.flatMap fun x => (eachP [] x.1).map fun k => (k, f (lineB x))
def movesB (b : Bd) : Bd := { b with verb := 1 }
def asksB (b : Bd) : Bd := { b with more := true }
def seeksB (b : Bd) : Bd := { b with verb := 1, more := true }
def objP (l : List (List Int × Int × Int × Int)) : Rows := l.flatMap fun x => (eachP [] x.1).flatMap fun k =>
  [(105 :: k, { lineB x with verb := 1 }), (97 :: k, { lineB x with verb := 1, move := x.2.2.1 + 1 })]
def ownP (k : List Int) : List (List Int) := if 1 < k.length then [k.drop (k.length - 1), k] else [k.drop (k.length - 1)]
def opsP (l : List (List Int × Int × Int × Int)) : Rows := l.flatMap fun x => (eachP [] x.1).map fun k => (k, { lineB x with own := ownP k })
set_option maxRecDepth 100000 in
theorem normal_is : addP movesB motionsL ++ addP seeksB seeksL ++ addP id scrollsL ++ addP id bothL ++ addP asksB namedL ++ addP id ofNormalL ++ opsP operatorsL = normalT := rfl
set_option maxRecDepth 100000 in
theorem selected_is : addP movesB motionsL ++ addP seeksB seeksL ++ addP id scrollsL ++ addP id bothL ++ addP asksB namedL ++ addP id ofSelectionL ++ objP objectsL = selectedT := rfl
set_option maxRecDepth 100000 in
theorem behind_is : addP movesB motionsL ++ addP seeksB seeksL ++ objP objectsL = behindT := rfl
/-- numbers -/
def digB (x : Int) : Bool := decide (48 ≤ x) && decide (x ≤ 57)
def dig1B (x : Int) : Bool := decide (49 ≤ x) && decide (x ≤ 57)
def runN (n : Int) : List Int → Int × List Int
  | [] => (n, [])
  | x :: t => if digB x then runN (min (10 * n + x - 48) 9999) t else (n, x :: t)
def numP (c : Int) : List Int → Int × List Int
  | [] => (c, [])
  | x :: t => if dig1B x then (min (max c 1 * (runN 0 (x :: t)).1) 9999, (runN 0 (x :: t)).2) else (c, x :: t)
/-- the prefixes: 0: more keys are wanted, 2: none may stand so, 1: register, count and what is left -/
def prefP : Nat → Int → Int → List Int → Nat × Int × Int × List Int
  | 0, _, _, _ => (0, 0, 0, [])
  | f + 1, r, c, l =>
    match (numP c l).2 with
    | [] => (0, 0, 0, [])
    | x :: t =>
      if x = 34 then
        match t with
        | [] => (0, 0, 0, [])
        | y :: u => if y = 0 then (2, 0, 0, []) else prefP f y (numP c l).1 u
      else (1, r, (numP c l).1, x :: t)
/-- the row with which keys begin -/
def lookG {α : Type} (S : List (List Int × α)) (l : List Int) : Nat × Option (List Int × α) :=
  match S.find? (fun r => r.1.isPrefixOf l) with
  | some r => (1, some r)
  | none => if l.isEmpty || S.any (fun r => l.isPrefixOf r.1) then (0, none) else (2, none)
def mlB : Bd := ⟨0, 60, 0, false, []⟩
def behP (own : List (List Int)) (l : List Int) : Nat × Option (List Int × Bd) :=
  if l = [] then (0, none) else
  match lookG (own.map fun k => (k, mlB)) l with
  | (1, r) => (1, r)
  | (s, _) => match lookG behindT l with
    | (2, _) => (s, none)
    | r => r
/-- the command of a row that was found, and its argument -/
def finP (reg cnt verb : Int) (b : Bd) (l : List Int) : Nat × Cmd :=
  let mv := if b.move = 33 ∧ 0 < cnt then 18 else b.move
  if b.more then
    match l with
    | [] => (0, cmd0)
    | a :: _ => (1, ⟨reg, cnt, verb, mv, a⟩)
  else (1, ⟨reg, cnt, verb, mv, b.arg⟩)
def rowP (T : Rows) (reg cnt : Int) (l : List Int) : Nat × Cmd :=
  match lookG T l with
  | (1, some (k, b)) =>
    if b.own = [] then finP reg cnt b.verb b (l.drop k.length)
    else
      match behP b.own (numP cnt (l.drop k.length)).2 with
      | (1, some (k', b')) => finP reg (numP cnt (l.drop k.length)).1 b.verb b' ((numP cnt (l.drop k.length)).2.drop k'.length)
      | (s, _) => (s, cmd0)
  | (s, _) => (s, cmd0)
def topT (sel : Bool) : Rows := if sel then selectedT else normalT
def readP (sel : Bool) (l : List Int) : Nat × Cmd :=
  match prefP (l.length + 1) 0 0 l with
  | (1, reg, cnt, rest) => rowP (topT sel) reg cnt rest
  | (s, _) => (s, cmd0)
/-- spelling -/
def digitsP : Nat → Int → List Int → List Int
  | 0, _, out => out
  | f + 1, n, out => if 0 < n ∧ n ≤ 9999 then digitsP f (n / 10) ((48 + n % 10) :: out) else out
def headsP (c : Cmd) : List (List Int) :=
  let reg := if c.reg = 0 then [] else [34, c.reg]
  let cnt := digitsP 5 c.count []
  [reg ++ cnt, cnt ++ reg]
def putP (head : List Int) (T : Rows) (arg : Int) : List (List Int) := T.map fun r => if r.2.more then head ++ r.1 ++ [arg] else head ++ r.1
def rowsP (sel : Bool) (c : Cmd) : List (List Int) :=
  if sel then putP [] selectedT c.arg
  else putP [] normalT c.arg ++ normalT.flatMap fun r => if r.2.own = [] ∨ r.2.verb ≠ c.verb then [] else putP r.1 behindT c.arg ++ r.2.own.map fun o => r.1 ++ o
/-- is a below b, key by key? -/
def lessP : List Int → List Int → Bool
  | [], [] => false
  | [], _ => true
  | _, [] => false
  | x :: s, y :: t => decide (x < y) || decide (x = y) && lessP s t
def betterB (keys best : List Int) : Bool := decide (keys.length < best.length) || decide (keys.length = best.length) && lessP keys best
/-- a trial: none: nothing was found so far -/
def tryP (sel : Bool) (c : Cmd) (best : Option (List Int)) (keys : List Int) : Option (List Int) :=
  if keys.contains 27 then best
  else if readP sel keys ≠ (1, c) then best
  else match best with
    | none => some keys
    | some b => if betterB keys b then some keys else some b
def candsP (sel : Bool) (c : Cmd) : List (List Int) := (rowsP sel c).flatMap fun r => (headsP c).map fun h => h ++ r
def spellP (sel : Bool) (c : Cmd) : Option (List Int) := (candsP sel c).foldl (tryP sel c) none
/-- the parser: its pending keys, the kind of its mode -/
def selP (mode : Int) : Bool := decide (mode = 3) || decide (mode = 4)
structure Par where
  pend : List Int
  sel : Bool
def par0 : Par := ⟨[], false⟩
def feedP (p : Par) (mode key : Int) : Par × Cmd × Nat :=
  let pend := if selP mode = p.sel then p.pend else []
  if key = 27 then (⟨[], selP mode⟩, cmd0, 3)
  else
    let r := readP (selP mode) (pend ++ [key])
    (⟨if r.1 = 0 then pend ++ [key] else [], selP mode⟩, r.2, r.1)
end Go.Proofs.Ytampjndfhpjheaa
