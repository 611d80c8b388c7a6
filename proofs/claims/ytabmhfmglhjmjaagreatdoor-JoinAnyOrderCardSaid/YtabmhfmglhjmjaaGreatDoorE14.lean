import Derived.Test.YtabmhfmglhjmjaaGreatDoorE13
import Derived.Shelf.Strings.OnBuilder
import Derived.Shelf.Strconv.Itoa3
import Derived.Shelf.Lay
import Derived.KernelRfl
set_option maxRecDepth 100000
set_option maxHeartbeats 4000000
set_option linter.unusedSimpArgs false
set_option linter.unusedVariables false
set_option linter.unusedSectionVars false
namespace Go.Proofs.YtabmhfmglhjmjaaGreatDoor
open Go.Ab Go.RowKit Go.Shelf Go.Proofs
shelf_lay Lays.n171 Nm 171 at Tryz as Tryz.layItoa
shelf_lay Lays.n156 Nm 156 at Tryz as Tryz.layJoin
theorem bldX : Builder.Extra Tryz.prog Tryz.layJoin_ren where
  sizeBuilder := by kernel_rfl
  liesBuilder := by kernel_rfl
  t5 := Tryz.underlying5
  a5 := Tryz.isAgg5
  z5 := Tryz.sizeOf5
  v5 := Tryz.zeroValue5
  infoByte := by kernel_rfl
  cellsByte := by kernel_rfl
  sizeByte := by kernel_rfl
  neB5 := by decide
class Lo [Dr] : Prop where
  h : Dr.loose
variable [Dr] [Lo]
def dec7 (i : Nat) : ByteArray := ⟨(Lib.decDigits i).toArray⟩
theorem c_Itoa (i : Nat) (hi : i < 100) : Pure Tryz.prog 129 [iv i] (AV.v (.string (dec7 i))) := by
  refine ⟨Tryz.call129, fun O w vs hr hO => ?_⟩
  obtain ⟨u, hu, h0⟩ := hr.2 0 _ rfl
  obtain rfl := h0.v_inv
  have hvs : vs = #[.int .i64 i] := by
    refine Array.ext_getElem? fun j => ?_
    match j with
    | 0 => simpa using hu
    | j + 1 =>
      have : vs.size = 1 := hr.1
      rw [Array.getElem?_eq_none (by omega), Array.getElem?_eq_none (by simp)]
  subst hvs
  exact (Any.strconv_Itoa_small Tryz.layItoa i hi w).mono fun e w' ⟨he, hw⟩ => by
    subst hw
    exact ⟨_, he, Gr.refl _, Rp.v _⟩
def join7 (xs : List ByteArray) (sep : ByteArray) : ByteArray := ⟨(Lib.join (xs.map (·.data.toList)) sep.data.toList).toArray⟩
theorem c_Join (xs : List ByteArray) (sep : ByteArray) (h1 : 1 ≤ xs.length) (hl : xs.length ≤ 1000) (hs : (Lib.join (xs.map (·.data.toList)) sep.data.toList).length ≤ 140737488355328) :
    Pure Tryz.prog 130 [ssl xs, AV.v (.string sep)] (AV.v (.string (join7 xs sep))) := by
  refine ⟨Tryz.call130, fun O w vs hr hO => ?_⟩
  obtain ⟨u, hu, h0⟩ := hr.2 0 _ rfl
  obtain ⟨u1, hu1, h2⟩ := hr.2 1 _ rfl
  obtain rfl := h2.v_inv
  have hsl := strs_len xs
  have hat : ∀ (j : Nat) (x : ByteArray), xs[j]? = some x → (strs xs)[j]? = some (.v (.string x)) := fun j x hx => by
    unfold strs
    rw [List.getElem?_map, hx]; rfl
  have fin : ∀ (b off cap : Nat), u = .slice (some ⟨b, off, none⟩) xs.length cap → xs.length ≤ cap → b < w.heap.size → (∀ (j : Nat) (x : ByteArray), xs[j]? = some x → w.cell? ⟨b, off + j, none⟩ = some (.string x)) →
      Calls Tryz.prog 130 vs w (fun e w' => ∃ u, e = .returned u ∧ Gr w w' ∧ Rp O w' (.v (.string (join7 xs sep))) u) := by
    intro b off cap hu2 hcap hb hc
    have hvs : vs = #[.slice (some ⟨b, off, none⟩) xs.length cap, .string sep] := by
      refine Array.ext_getElem? fun j => ?_
      match j with
      | 0 => rw [hu, hu2]; rfl
      | 1 => rw [hu1]; rfl
      | j + 2 =>
        have : vs.size = 2 := hr.1
        rw [Array.getElem?_eq_none (by omega), Array.getElem?_eq_none (by simp)]
    subst hvs
    exact (Any.strings_Join Tryz.layJoin bldX b off cap xs sep w hc hb (by omega) hcap hs).mono fun e w' ⟨he, hw⟩ => ⟨_, he, Gr.of_below hw (.inl Lo.h), Rp.v _⟩
  have h0' : Rp O w (.sl 1 xs.length (strs xs)) u := h0
  clear h0 hu hu1
  generalize hN : xs.length = N at h0' h1 fin
  generalize hC : strs xs = C at h0' hat
  cases h0' with
  | nla sz a => omega
  | sl sz n cs b off cap f hO hb hn hl hc hr0 =>
    refine fin b off cap rfl hn hb fun j x hx => ?_
    have h3 := hc j _ (hat j x hx)
    have h4 := hr0 j _ (hat j x hx)
    have h5 : f j = .string x := Rp.v_inv h4
    rw [h3, h5]
instance drL : Dr := ⟨True, fun _ _ => True, fun _ h => h, fun _ _ h => h⟩
instance loL : @Lo drL := @Lo.mk drL True.intro
end Go.Proofs.YtabmhfmglhjmjaaGreatDoor
