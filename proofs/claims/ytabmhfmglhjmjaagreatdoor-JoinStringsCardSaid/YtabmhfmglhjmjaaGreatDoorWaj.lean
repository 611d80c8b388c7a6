/- Parts of the proof, put together by a program. -/
import Derived.Shelf.SlSortCmp.WholeK
import Derived.Shelf.SlSortCmp.Whole1
import Derived.Ground.SlsfProg
import Derived.Test.YtabmhfmglhjmjaaGreatDoorProg
import Derived.Test.YtabmhfmglhjmjaaGreatDoorWac
import Derived.Test.YtabmhfmglhjmjaaGreatDoorWai
set_option maxRecDepth 100000
set_option maxHeartbeats 4000000
set_option linter.unusedSimpArgs false
set_option linter.unusedVariables false
set_option linter.unusedSectionVars false
namespace Go.Ab
variable [Dr]
open Go.RowKit
theorem flat_get {β : Type} {av : β → List AV} {k : Nat} : ∀ {d : List β}, (∀ x ∈ d, (av x).length = k) → ∀ (i t : Nat), t < k → (d.flatMap av)[i * k + t]? = (d[i]?).bind fun x => (av x)[t]?
  | [], _, i, t, _ => by simp
  | x :: d, hk, i, t, ht => by
    have hx := hk x (by simp)
    rw [List.flatMap_cons]
    cases i with
    | zero =>
      rw [Nat.zero_mul, Nat.zero_add, List.getElem?_append_left (by omega)]
      simp
    | succ i =>
      rw [show (i + 1) * k + t = k + (i * k + t) by rw [Nat.succ_mul]; omega, List.getElem?_append_right (by omega), hx, Nat.add_sub_cancel_left, flat_get (fun y hy => hk y (by simp [hy])) i t ht]
      simp
theorem flat_len {β : Type} {av : β → List AV} {k : Nat} : ∀ {d : List β}, (∀ x ∈ d, (av x).length = k) → (d.flatMap av).length = d.length * k
  | [], _ => by simp
  | x :: d, hk => by
    rw [List.flatMap_cons, List.length_append, hk x (by simp), flat_len fun y hy => hk y (by simp [hy]), List.length_cons, Nat.succ_mul]
    omega
theorem putRow_set {w : World} {b st : Nat} {F old : Array Value} {e : TypeId} (hb : w.heap[b]? = some (Obj.cells old e (0, 0))) : Sort.putRow id w b st F = w.setRow b (Sort.putCells id st F old) := by
  have h1 : Sort.putRow id w b st F = Sort.mapBlock w b (fun _ => Sort.putCells id st F old) := by
    unfold Sort.putRow
    refine Sort.mapBlock_congr _ _ _ _ fun c e' fr h => ?_
    rw [hb] at h
    cases h
    rfl
  rw [h1]
  unfold Sort.mapBlock World.setRow
  congr 1
theorem putRow_setG {α : Type} [Inhabited α] (en : α → Value) {w : World} {b st : Nat} {F : Array α} {old : Array Value} {e : TypeId} (hb : w.heap[b]? = some (Obj.cells old e (0, 0))) : Sort.putRow en w b st F = w.setRow b (Sort.putCells en st F old) := by
  have h1 : Sort.putRow en w b st F = Sort.mapBlock w b (fun _ => Sort.putCells en st F old) := by
    unfold Sort.putRow
    refine Sort.mapBlock_congr _ _ _ _ fun c e' fr h => ?_
    rw [hb] at h
    cases h
    rfl
  rw [h1]
  unfold Sort.mapBlock World.setRow
  congr 1
theorem gr_ahead (w : World) (n : Nat) : Gr w (Sort.ahead w n) := ⟨rfl, rfl, rfl, .of (Nat.le_add_right _ _), Nat.le_refl _, fun _ _ => rfl⟩
theorem gr_grow (w : World) (os : Array Obj) : Gr w (Sort.grow w os) := ⟨rfl, rfl, rfl, .of (Nat.le_refl _), by simp [Sort.grow], fun k hk => by simp [Sort.grow, Array.getElem?_append_left hk]⟩
omit [Dr] in
theorem grow_of_gr {w w' : World} (h : @Gr drS w w') : ∃ q os', w' = Sort.grow (w.drewN q) os' := by
  refine ⟨w'.drawn - w.drawn, w'.heap.extract w.heap.size w'.heap.size, ?_⟩
  have hh : w'.heap = w.heap ++ w'.heap.extract w.heap.size w'.heap.size := by
    apply Array.ext_getElem?
    intro i
    have hs := (@Gr.size drS _ _ h)
    rcases Nat.lt_or_ge i w.heap.size with hi | hi
    · rw [Array.getElem?_append_left hi, (@Gr.block drS _ _ h) i hi]
    · rw [Array.getElem?_append_right hi, Array.getElem?_extract]
      rcases Nat.lt_or_ge i w'.heap.size with h2 | h2
      · rw [if_pos (by omega), show w.heap.size + (i - w.heap.size) = i by omega]
      · rw [if_neg (by omega), Array.getElem?_eq_none h2]
  have hd : w.drawn ≤ w'.drawn := (@Gr.drawn drS _ _ h).resolve_left id
  have hos := (@Gr.os drS _ _ h)
  have htp := (@Gr.tape drS _ _ h)
  have hou := (@Gr.output drS _ _ h)
  obtain ⟨heap, tape, drawn, os, output⟩ := w
  obtain ⟨heap', tape', drawn', os', output'⟩ := w'
  dsimp only at hh hd hos htp hou
  subst hos htp hou
  unfold Sort.grow World.drewN
  dsimp only
  rw [← hh, show drawn + (drawn' - drawn) = drawn' by omega]
def CmpA {β : Type} (P : Program) (g : Nat) (caps : List AV) (av : β → List AV) (cf : β → β → Int) : Prop :=
  ∀ (x y : β) (us vs cb : Array Value) (O : Nat → Prop) (w : World), Rps O w (av x) us → Rps O w (av y) vs → Rps O w caps cb → Bk O w →
    Calls P g (#[.agg us, .agg vs] ++ cb) w fun e w' => e = .returned (.int .i64 (cf x y)) ∧ ∃ q os', w' = Sort.grow (w.drewN q) os'
theorem rps_app {O : Nat → Prop} {w : World} {ms cs : List AV} {us vs : Array Value} (h : Rps O w ms us) (k : Rps O w cs vs) : Rps O w (ms ++ cs) (us ++ vs) := by
  refine ⟨by simp [h.1, k.1], fun i a ha => ?_⟩
  rcases Nat.lt_or_ge i ms.length with hi | hi
  · rw [List.getElem?_append_left hi] at ha
    rw [Array.getElem?_append_left (by rw [h.1]; exact hi)]
    exact h.2 i a ha
  · rw [List.getElem?_append_right hi] at ha
    rw [Array.getElem?_append_right (by rw [h.1]; exact hi), h.1]
    exact k.2 _ a ha
theorem cmpA_of {β : Type} {P : Program} {g : Nat} {caps : List AV} {av : β → List AV} {cf : β → β → Int} (h : ∀ x y, @Pure drS P g ([.ag (av x), .ag (av y)] ++ caps) (.v (.int .i64 (cf x y)))) : CmpA P g caps av cf := by
  intro x y us vs cb O w hu hv hcb hO
  have hag : ∀ {cs : List AV} {us : Array Value}, Rps O w cs us → Rp O w (.ag cs) (.agg us) := fun {cs us} h => by
    obtain ⟨f, hf⟩ := pick_family h.2
    exact .ag cs us f h.1 (fun i c hc => (hf i c hc).1) (fun i c hc => (hf i c hc).2)
  refine (@Pure.run drS _ _ _ _ (h x y) O w _ (rps_app (us := #[.agg us, .agg vs]) ⟨rfl, fun i a ha => ?_⟩ hcb) ⟨hO, True.intro⟩).mono fun e w' ⟨u, he, hg, hr⟩ => ?_
  · match i with
    | 0 => simp only [List.getElem?_cons_zero, Option.some.injEq] at ha; subst ha; exact ⟨_, rfl, hag hu⟩
    | 1 => simp only [List.getElem?_cons_succ, List.getElem?_cons_zero, Option.some.injEq] at ha; subst ha; exact ⟨_, rfl, hag hv⟩
    | i + 2 => simp at ha
  · obtain rfl := hr.v_inv
    exact ⟨he, grow_of_gr hg⟩
def El {β : Type} (k : Nat) (av : β → List AV) (O : Nat → Prop) (w : World) : Type := { p : β × List Value // p.2.length = k ∧ (∀ v ∈ p.2, v.oneCell' = true) ∧ Rps O w (av p.1) p.2.toArray }
theorem m_sortK {P : Program} {ρ : Shelf.Ren} (L : Proofs.SlLaysF0.n6 P ρ) {γ : Type} (k : Nat) (aE : ∀ w, (isAgg (ρ.t 24)).run P w = .ok true w) (zE : ∀ w, (Go.sizeOf (ρ.t 24)).run P w = .ok k w)
    (hcan : Callable P (ρ.f 6)) (av : γ → List AV) (cf : γ → γ → Int) (hO : Sort.SWO (Proofs.ltOf cf)) (g : Nat) (eg : Callable P g) (caps : List AV) (hcp : plainL caps = true) (hcmp : CmpA P g caps av cf)
    (H : Hp) (nx r : Nat) (d : List γ) (hd : 1 ≤ d.length) (hd2 : d.length < 4611686018427387904) (hr : H r = some (d.flatMap av)) (hk : ∀ x ∈ d, (av x).length = k) (hp : ∀ x ∈ d, plainL (av x) = true) (h1 : ∀ x ∈ d, oneL (av x) = true)
    (K : AV → Hp → Nat → Prop) (hK : ∀ ys : List γ, ys.Perm d → (∀ (i j : Nat) x y, i < j → ys[i]? = some x → ys[j]? = some y → 0 ≤ cf y x) → K (.tu []) (hset H r (some (ys.flatMap av))) nx) :
    CallM P (ρ.f 6) H nx [.ls r 0 k d.length, .fn (.func g) [] caps] K := by
  refine ⟨hcan, fun gh β O w vs hc hB hv => ?_⟩
  obtain ⟨u0, hu0, hr0⟩ := hv.2 0 _ rfl
  obtain ⟨u1, hu1, hr1⟩ := hv.2 1 _ rfl
  obtain ⟨us, cb, rfl, hus, hvs, _, hcb⟩ := hr1.fn_inv
  have hus0 : us = #[] := Array.eq_empty_of_size_eq_zero (by simpa using hus)
  subst hus0
  have hcb : Rps O w caps cb := ⟨hvs, fun i a ha => (hcb i a ha).imp fun u hu => ⟨hu.1, hu.2.plain (plainL_get hcp ha)⟩⟩
  rcases hr0.ls_inv with ⟨_, h0, _⟩ | ⟨b, st, cap, hβ, hcap, rfl, _⟩
  · omega
  have hvs2 : vs = #[Value.slice (some ⟨b, st + 0, none⟩) d.length cap, Value.func (.func g) #[] cb] := by
    refine Array.ext_getElem? fun i => ?_
    match i with
    | 0 => simpa using hu0
    | 1 => simpa using hu1
    | i + 2 =>
      have : vs.size = 2 := hv.1
      rw [Array.getElem?_eq_none (by omega), Array.getElem?_eq_none (by simp)]
  subst hvs2
  clear hu0 hu1
  rcases hc.row r _ hr with ⟨h2, _⟩ | ⟨b', st', h2, hOb, hBb, hrow⟩
  · rw [hβ] at h2; cases h2
  rw [hβ] at h2
  cases h2
  have hblk := hrow.lt
  obtain ⟨arr, e, hb, hsz, hcell⟩ := hrow
  rw [flat_len hk] at hsz
  have hel : ∀ (i : Nat) (x : _), d[i]? = some x → ∃ l : List Value, l.length = k ∧ (∀ v ∈ l, v.oneCell' = true) ∧ Rps O w (av x) l.toArray ∧ ∀ t, t < k → arr[st + (i * k + t)]? = l[t]? := fun i x hx => by
    have hxd : x ∈ d := List.mem_of_getElem? hx
    have hil : i < d.length := (List.getElem?_eq_some_iff.1 hx).1
    have hik : i * k + k ≤ d.length * k := by rw [← Nat.succ_mul]; exact Nat.mul_le_mul_right k hil
    have hget : ∀ t, t < k → ∃ u, arr[st + (i * k + t)]? = some u ∧ ∀ a, (av x)[t]? = some a → R β O w a u := fun t ht => by
      have ha : (d.flatMap av)[i * k + t]? = some ((av x)[t]'(by rw [hk x hxd]; exact ht)) := by
        rw [flat_get hk i t ht, hx, Option.bind_some, List.getElem?_eq_getElem]
      obtain ⟨u, hu, hR⟩ := hcell _ _ ha
      refine ⟨u, hu, fun a ha' => ?_⟩
      rw [List.getElem?_eq_getElem (by rw [hk x hxd]; exact ht)] at ha'
      cases ha'
      exact hR
    obtain ⟨f, hf⟩ : ∃ f : Nat → Value, ∀ t, t < k → arr[st + (i * k + t)]? = some (f t) ∧ ∀ a, (av x)[t]? = some a → R β O w a (f t) :=
      ⟨fun t => if ht : t < k then (hget t ht).choose else default, fun t ht => by
        have := (hget t ht).choose_spec
        simp only [dif_pos ht]
        exact this⟩
    refine ⟨(List.range k).map f, by simp, fun v hv => ?_, ⟨by simp [hk x hxd], fun t a ha => ?_⟩, fun t ht => by rw [(hf t ht).1]; simp [ht]⟩
    · obtain ⟨t, ht, rfl⟩ := List.mem_map.1 hv
      have ht := List.mem_range.1 ht
      have ha := List.getElem?_eq_getElem (l := av x) (i := t) (by rw [hk x hxd]; exact ht)
      refine ((hf t ht).2 _ ha).one ?_
      have := h1 x hxd
      unfold oneL at this
      exact List.all_eq_true.1 this _ (List.getElem_mem _)
    · have ht : t < k := by rw [← hk x hxd]; exact (List.getElem?_eq_some_iff.1 ha).1
      refine ⟨f t, by simp [ht], ((hf t ht).2 a ha).plain (plainL_get (hp x hxd) ha)⟩
  have helL : ∀ i : Nat, i < d.length → ∃ z : El k av O w, d[i]? = some z.1.1 ∧ ∀ t, t < k → arr[st + (i * k + t)]? = z.1.2[t]? := fun i hi => by
    obtain ⟨l, a1, a2, a3, a4⟩ := hel i d[i] (List.getElem?_eq_getElem hi)
    exact ⟨⟨(d[i], l), a1, a2, a3⟩, List.getElem?_eq_getElem hi, a4⟩
  have z0 : El k av O w := (helL 0 (by omega)).choose
  haveI : Inhabited (El k av O w) := ⟨z0⟩
  obtain ⟨zf, hzf⟩ : ∃ zf : Nat → El k av O w, ∀ i, i < d.length → d[i]? = some (zf i).1.1 ∧ ∀ t, t < k → arr[st + (i * k + t)]? = (zf i).1.2[t]? :=
    ⟨fun i => if hi : i < d.length then (helL i hi).choose else z0, fun i hi => by
      have := (helL i hi).choose_spec
      simp only [dif_pos hi]
      exact this⟩
  let D : Array (El k av O w) := ((List.range d.length).map zf).toArray
  have hDs : D.size = d.length := by simp [D]
  have hDl : D.toList.map (fun z => z.1.1) = d := by
    refine List.ext_getElem? fun i => ?_
    rcases Nat.lt_or_ge i d.length with hi | hi
    · rw [(hzf i hi).1]
      simp [D, hi]
    · rw [List.getElem?_eq_none hi, List.getElem?_eq_none (by simpa [D] using hi)]
  have hDg : ∀ i, i < d.length → D[i]! = zf i := fun i hi => by simp [D, hi]
  let enc : El k av O w → List Value := fun z => z.1.2
  have hgetF : ∀ t, t < d.length * k → arr[st + t]? = some (Sort.flatK enc k D)[t]! := fun t ht => by
    have hk0 : 0 < k := Nat.pos_of_ne_zero fun h => by rw [h] at ht; simp at ht
    have h3 : t / k < d.length := Nat.div_lt_of_lt_mul (by rw [Nat.mul_comm]; exact ht)
    have h4 : t % k < k := Nat.mod_lt _ hk0
    rw [Sort.get_flatK enc k D t (by rw [hDs]; exact ht), hDg _ h3]
    have h5 := (hzf _ h3).2 _ h4
    rw [show t / k * k + t % k = t by rw [Nat.mul_comm]; exact Nat.div_add_mod t k] at h5
    rw [h5, List.getElem?_eq_getElem (by rw [(zf (t / k)).2.1]; exact h4)]
    rw [getElem!_pos _ _ (by rw [(zf (t / k)).2.1]; exact h4)]
  have hH : Sort.HoldsK enc k w b (st + 0) D := fun j hj => by
    have hj' : j < d.length * k := by simpa [hDs] using hj
    have h5 := hgetF j hj'
    refine ⟨?_, by simp [World.frozen?, hb]⟩
    simp only [World.cell?, hb, Option.isSome_none, Bool.false_eq_true, if_false, Nat.add_zero, id]
    exact h5
  have hcl : ∀ x : El k av O w, (enc x).length = k := fun x => x.2.1
  have hone : ∀ x : El k av O w, ∀ v ∈ enc x, v.oneCell' = true := fun x => x.2.2.1
  have hSWO : Sort.SWO (Proofs.ltOf fun x y : El k av O w => cf x.1.1 y.1.1) := ⟨fun x => hO.irrefl _, fun x y z => hO.trans _ _ _, fun x y z => hO.ntrans _ _ _⟩
  have hmono : ∀ (m : Nat) (os : Array Obj) (dk : Array (El k av O w)), dk.size = D.size → Tr O w O (Proofs.sortWorldK enc k w b (st + 0) m dk os) := fun m os dk hdk => by
    unfold Proofs.sortWorldK Sort.putRowK
    have hb' : (Sort.ahead w m).heap[b]? = some (Obj.cells arr e (0, 0)) := hb
    rw [putRow_set hb']
    exact ((Tr.of_gr (gr_ahead w m)).trans (tr_setRow hOb hb' (by simp [Sort.putCells]))).trans (Tr.of_gr (gr_grow _ _))
  have hcmp' : Proofs.CmpLays P g cb enc k (fun x y : El k av O w => cf x.1.1 y.1.1) b (st + 0) D.size w := fun m os dk hdk x y => by
    have ht := hmono m os dk hdk
    exact hcmp x.1.1 y.1.1 x.1.2.toArray y.1.2.toArray cb O _ ⟨x.2.2.2.1, fun i a ha => (x.2.2.2.2 i a ha).imp fun u hu => ⟨hu.1, hu.2.mono ht⟩⟩ ⟨y.2.2.2.1, fun i a ha => (y.2.2.2.2 i a ha).imp fun u hu => ⟨hu.1, hu.2.mono ht⟩⟩ ⟨hcb.1, fun i a ha => (hcb.2 i a ha).imp fun u hu => ⟨hu.1, hu.2.mono ht⟩⟩ (fun b hb => Nat.lt_of_lt_of_le (hc.own.1 b hb) ht.size)
  have hcon := Proofs.AnyQ.slices_SortFunc L k aE zE enc hcl hone (fun x y : El k av O w => cf x.1.1 y.1.1) hSWO g cb b (st + 0) cap D w eg hcmp' hH hblk (by rw [hDs]; exact hd2)
  rw [hDs] at hcon
  refine hcon.mono fun en w' ⟨he, d', m, os, hpm, hst, hw'⟩ => ?_
  obtain ⟨hs', _, hpe⟩ := hpm
  have hperm : d'.toList.Perm D.toList := by
    have e1 : d'.extract 0 d.length = d' := by rw [show d.length = d'.size by omega]; simp
    have e2 : D.extract 0 d.length = D := by rw [show d.length = D.size by omega]; simp
    rwa [e1, e2] at hpe
  let ys : List γ := d'.toList.map fun z => z.1.1
  have hyp : ys.Perm d := by rw [← hDl]; exact hperm.map _
  have hyl : ys.length = d.length := hyp.length_eq
  have hg' : ∀ i, i < d.length → ys[i]? = some (d'[i]!).1.1 := fun i hi => by
    have : i < d'.size := by omega
    simp [ys, this]
  have hys : ∀ (i j : Nat) x y, i < j → ys[i]? = some x → ys[j]? = some y → 0 ≤ cf y x := fun i j x y hij hx hy => by
    have hj : j < d.length := by rw [← hyl]; exact (List.getElem?_eq_some_iff.1 hy).1
    have h6 := hst i j (Nat.zero_le _) hij hj
    rw [hg' i (by omega)] at hx
    rw [hg' j hj] at hy
    cases hx
    cases hy
    unfold Proofs.ltOf at h6
    have h7 := of_decide_eq_false h6
    exact Int.not_lt.1 h7
  have hyk : ∀ x ∈ ys, (av x).length = k := fun x hx => hk x (hyp.mem_iff.1 hx)
  have hw0 : (Sort.ahead w m).heap[b]? = some (Obj.cells arr e (0, 0)) := hb
  have hgr0 := gr_ahead w m
  obtain ⟨q1, q2, q3⟩ := hc_write (hc.gr hgr0) (k := r) (c' := ys.flatMap av) hr hβ (new := Sort.putCells id (st + 0) (Sort.flatK enc k d') arr) hw0 (by simp [Sort.putCells])
    (by rw [flat_len hyk, hyl]; simpa [Sort.putCells] using hsz) fun j x hj => by
      have hj' : j < d.length * k := by rw [← hyl, ← flat_len hyk]; exact (List.getElem?_eq_some_iff.1 hj).1
      have hk0 : 0 < k := Nat.pos_of_ne_zero fun h => by rw [h] at hj'; simp at hj'
      have h3 : j / k < d.length := Nat.div_lt_of_lt_mul (by rw [Nat.mul_comm]; exact hj')
      have h4 : j % k < k := Nat.mod_lt _ hk0
      have hfl : (Sort.flatK enc k d')[j]! = (d'[j / k]!).1.2[j % k]! := Sort.get_flatK enc k d' j (by rw [hs', hDs]; exact hj')
      rw [show j = j / k * k + j % k by rw [Nat.mul_comm]; exact (Nat.div_add_mod j k).symm, flat_get hyk _ _ h4, hg' _ h3, Option.bind_some] at hj
      obtain ⟨u, hu, hR⟩ := (d'[j / k]!).2.2.2.2 _ _ hj
      refine ⟨u, ?_, .pl _ _ (hR.mono (Tr.of_gr hgr0))⟩
      have hlt : st + j < arr.size := by omega
      have hcond : st ≤ st + j ∧ st + j < st + (Sort.flatK enc k d').size := ⟨by omega, by rw [Sort.size_flatK, hs', hDs]; omega⟩
      simp only [Sort.putCells, Array.getElem?_mapIdx, Array.getElem?_eq_getElem hlt, Option.map_some, Nat.add_zero, if_pos hcond, id, Nat.add_sub_cancel_left, hfl]
      have hu2 : (d'[j / k]!).1.2[j % k]? = some u := by simpa using hu
      rw [List.getElem!_eq_getElem?_getD, hu2]
      rfl
  have hww : Proofs.sortWorldK enc k w b (st + 0) m d' os = Sort.grow ((Sort.ahead w m).setRow b (Sort.putCells id (st + 0) (Sort.flatK enc k d') arr)) os := by
    unfold Proofs.sortWorldK Sort.putRowK
    rw [putRow_set hw0]
  rw [hww] at hw'
  subst hw'
  have hgr1 := gr_grow ((Sort.ahead w m).setRow b (Sort.putCells id (st + 0) (Sort.flatK enc k d') arr)) os
  have hBk : Bk gh.B0 ((Sort.ahead w m).setRow b (Sort.putCells id (st + 0) (Sort.flatK enc k d') arr)) := (hB.gr hgr0.size).gr q2.size
  refine ⟨.tuple #[], .tu [], _, nx, β, O, he, hK ys hyp hys, q1.gr hgr1, ((Pr.of_gr hgr0 hB).trans q3).trans (Pr.of_gr hgr1 hBk), .pl _ _ (.tu [] #[] (fun _ => default) rfl (fun i c h => by simp at h) (fun i c h => by simp at h)), ((Tr.of_gr hgr0).trans q2).trans (Tr.of_gr hgr1), fun _ _ h => h⟩
theorem m_sortI {P : Program} {ρ : Shelf.Ren} (L : Proofs.SlLaysF.n6 P ρ) {γ : Type} [Inhabited γ] (hcan : Callable P (ρ.f 6)) (enc : γ → Int) (cf : γ → γ → Int) (hO : Sort.SWO (Proofs.ltOf cf)) (g : Nat) (eg : Callable P g) (caps : List AV) (hcp : plainL caps = true)
    (hcmp : ∀ x y : γ, @Pure drS P g ([iv (enc x), iv (enc y)] ++ caps) (iv (cf x y))) (H : Hp) (nx r : Nat) (d : List γ) (hd : 1 ≤ d.length) (hd2 : d.length < 4611686018427387904) (hr : H r = some (ints (d.map enc)))
    (K : AV → Hp → Nat → Prop) (hK : ∀ ys : List γ, ys.Perm d → (∀ (i j : Nat) x y, i < j → ys[i]? = some x → ys[j]? = some y → 0 ≤ cf y x) → K (.tu []) (hset H r (some (ints (ys.map enc)))) nx) :
    CallM P (ρ.f 6) H nx [.ls r 0 1 d.length, .fn (.func g) [] caps] K := by
  refine ⟨hcan, fun gh β O w vs hc hB hv => ?_⟩
  obtain ⟨u0, hu0, hr0⟩ := hv.2 0 _ rfl
  obtain ⟨u1, hu1, hr1⟩ := hv.2 1 _ rfl
  obtain ⟨us, cb, rfl, hus, hvs, _, hcb⟩ := hr1.fn_inv
  have hus0 : us = #[] := Array.eq_empty_of_size_eq_zero (by simpa using hus)
  subst hus0
  have hcb : Rps O w caps cb := ⟨hvs, fun i a ha => (hcb i a ha).imp fun u hu => ⟨hu.1, hu.2.plain (plainL_get hcp ha)⟩⟩
  rcases hr0.ls_inv with ⟨_, h0, _⟩ | ⟨b, st, cap, hβ, hcap, rfl, _⟩
  · omega
  have hvs2 : vs = #[Value.slice (some ⟨b, st + 0, none⟩) d.length cap, Value.func (.func g) #[] cb] := by
    refine Array.ext_getElem? fun i => ?_
    match i with
    | 0 => simpa using hu0
    | 1 => simpa using hu1
    | i + 2 =>
      have : vs.size = 2 := hv.1
      rw [Array.getElem?_eq_none (by omega), Array.getElem?_eq_none (by simp)]
  subst hvs2
  clear hu0 hu1
  rcases hc.row r _ hr with ⟨h2, _⟩ | ⟨b', st', h2, hOb, hBb, hrow⟩
  · rw [hβ] at h2; cases h2
  rw [hβ] at h2
  cases h2
  have hblk := hrow.lt
  obtain ⟨arr, e, hb, hsz, hcell⟩ := hrow
  rw [ints_length, List.length_map] at hsz
  let en : γ → Value := fun x => .int .i64 (enc x)
  let D : Array γ := d.toArray
  have hDs : D.size = d.length := by simp [D]
  have hDg : ∀ i (hi : i < d.length), D[i]! = d[i] := fun i hi => by simp [D, hi]
  have hH : Sort.Holds en w b (st + 0) D := fun j hj => by
    have hj' : j < d.length := by simpa [hDs] using hj
    obtain ⟨u, hu, hR⟩ := hcell j (iv (enc d[j])) (by simp [ints, hj'])
    have := hR.v_inv
    subst this
    refine ⟨?_, by simp [World.frozen?, hb]⟩
    simp only [World.cell?, hb, Option.isSome_none, Bool.false_eq_true, if_false, Nat.add_zero]
    rw [hDg j hj']
    exact hu
  have hone : Proofs.OneCell en := fun x => rfl
  have hmono : ∀ (m : Nat) (os : Array Obj) (dk : Array γ), dk.size = D.size → Tr O w O (Proofs.sortWorld en w b (st + 0) m dk os) := fun m os dk hdk => by
    unfold Proofs.sortWorld
    have hb' : (Sort.ahead w m).heap[b]? = some (Obj.cells arr e (0, 0)) := hb
    rw [putRow_setG en hb']
    exact ((Tr.of_gr (gr_ahead w m)).trans (tr_setRow hOb hb' (by simp [Sort.putCells]))).trans (Tr.of_gr (gr_grow _ _))
  have hcmp' : Proofs.CmpLays1 P g cb en cf b (st + 0) D.size w := fun m os dk hdk x y => by
    have ht := hmono m os dk hdk
    refine (@Pure.run drS _ _ _ _ (hcmp x y) O _ _ (rps_app (us := #[en x, en y]) ⟨rfl, fun i a ha => ?_⟩ ⟨hcb.1, fun i a ha => (hcb.2 i a ha).imp fun u hu => ⟨hu.1, hu.2.mono ht⟩⟩) ⟨fun b hb => Nat.lt_of_lt_of_le (hc.own.1 b hb) ht.size, True.intro⟩).mono fun e w' ⟨u, he, hg, hr⟩ => ?_
    · match i with
      | 0 => simp only [List.getElem?_cons_zero, Option.some.injEq] at ha; subst ha; exact ⟨_, rfl, .v _⟩
      | 1 => simp only [List.getElem?_cons_succ, List.getElem?_cons_zero, Option.some.injEq] at ha; subst ha; exact ⟨_, rfl, .v _⟩
      | i + 2 => simp at ha
    · obtain rfl := hr.v_inv
      exact ⟨he, grow_of_gr hg⟩
  have hcon := Proofs.Any.slices_SortFunc L en hone cf hO g cb b (st + 0) cap D w eg hcmp' hH hblk (by rw [hDs]; exact hd2)
  rw [hDs] at hcon
  refine hcon.mono fun en' w' ⟨he, d', m, os, hpm, hst, hw'⟩ => ?_
  obtain ⟨hs', _, hpe⟩ := hpm
  have hperm : d'.toList.Perm D.toList := by
    have e1 : d'.extract 0 d.length = d' := by rw [show d.length = d'.size by omega]; simp
    have e2 : D.extract 0 d.length = D := by rw [show d.length = D.size by omega]; simp
    rwa [e1, e2] at hpe
  have hyp : d'.toList.Perm d := by simpa [D] using hperm
  have hyl : d'.toList.length = d.length := hyp.length_eq
  have hg' : ∀ i, i < d.length → d'.toList[i]? = some (d'[i]!) := fun i hi => by
    have : i < d'.size := by omega
    simp [this]
  have hys : ∀ (i j : Nat) x y, i < j → d'.toList[i]? = some x → d'.toList[j]? = some y → 0 ≤ cf y x := fun i j x y hij hx hy => by
    have hj : j < d.length := by rw [← hyl]; exact (List.getElem?_eq_some_iff.1 hy).1
    have h6 := hst i j (Nat.zero_le _) hij hj
    rw [hg' i (by omega)] at hx
    rw [hg' j hj] at hy
    cases hx
    cases hy
    unfold Proofs.ltOf at h6
    exact Int.not_lt.1 (of_decide_eq_false h6)
  have hw0 : (Sort.ahead w m).heap[b]? = some (Obj.cells arr e (0, 0)) := hb
  have hgr0 := gr_ahead w m
  obtain ⟨q1, q2, q3⟩ := hc_write (hc.gr hgr0) (k := r) (c' := ints (d'.toList.map enc)) hr hβ (new := Sort.putCells en (st + 0) d' arr) hw0 (by simp [Sort.putCells])
    (by rw [ints_length, List.length_map, hyl]; simpa [Sort.putCells] using hsz) fun j x hj => by
      have hj' : j < d.length := by
        have := (List.getElem?_eq_some_iff.1 hj).1
        rw [ints_length, List.length_map] at this
        omega
      have hlt : st + j < arr.size := by omega
      have hcond : st ≤ st + j ∧ st + j < st + d'.size := ⟨by omega, by omega⟩
      refine ⟨en d'[j]!, ?_, ?_⟩
      · simp only [Sort.putCells, Array.getElem?_mapIdx, Array.getElem?_eq_getElem hlt, Option.map_some, Nat.add_zero, if_pos hcond, Nat.add_sub_cancel_left]
      · have : x = iv (enc d'[j]!) := by
          have h7 := hg' j hj'
          simp only [ints, List.getElem?_map, h7, Option.map_some, Option.some.injEq] at hj
          exact hj.symm
        subst this
        exact .vv _
  have hww : Proofs.sortWorld en w b (st + 0) m d' os = Sort.grow ((Sort.ahead w m).setRow b (Sort.putCells en (st + 0) d' arr)) os := by
    unfold Proofs.sortWorld
    rw [putRow_setG en hw0]
  rw [hww] at hw'
  subst hw'
  have hgr1 := gr_grow ((Sort.ahead w m).setRow b (Sort.putCells en (st + 0) d' arr)) os
  have hBk : Bk gh.B0 ((Sort.ahead w m).setRow b (Sort.putCells en (st + 0) d' arr)) := (hB.gr hgr0.size).gr q2.size
  refine ⟨.tuple #[], .tu [], _, nx, β, O, he, hK _ hyp hys, q1.gr hgr1, ((Pr.of_gr hgr0 hB).trans q3).trans (Pr.of_gr hgr1 hBk), .pl _ _ (.tu [] #[] (fun _ => default) rfl (fun i c h => by simp at h) (fun i c h => by simp at h)), ((Tr.of_gr hgr0).trans q2).trans (Tr.of_gr hgr1), fun _ _ h => h⟩
end Go.Ab
namespace Go.Proofs
open Go.Shelf
def Tryz.sortLag_ren : Go.Shelf.Ren := ⟨fun | 6 => 88 | 15 => 141 | 14 => 140 | 28 => 172 | 29 => 173 | 20 => 164 | 21 => 165 | 22 => 166 | 23 => 167 | 24 => 168 | 25 => 169 | 26 => 170 | 27 => 171 | 46 => 201 | 47 => 202 | 48 => 203 | 49 => 204 | 50 => 205 | 57 => 229 | n => n, fun | 22 => 143 | 24 => 27 | 25 => 146 | 3 => 3 | 39 => 194 | 0 => 0 | 53 => 226 | 55 => 228 | 4 => 4 | 46 => 220 | 45 => 219 | 50 => 174 | 5 => 5 | 9 => 9 | 66 => 244 | 70 => 208 | 76 => 272 | 77 => 77 | n => n, fun | n => n⟩
theorem Tryz.sortLag : Go.Proofs.SlLaysF0.n6 Tryz.prog Tryz.sortLag_ren := {
  mixed := by kernel_rfl
  f6 := ⟨Tryz.f88.name, by decide, Tryz.func88.trans (congrArg some (by kernel_rfl))⟩
  f14 := ⟨Tryz.f140.name, by decide, Tryz.func140.trans (congrArg some (by kernel_rfl))⟩
  f15 := Tryz.func141.trans (congrArg some (by kernel_rfl))
  f20 := ⟨Tryz.f164.name, by decide, Tryz.func164.trans (congrArg some (by kernel_rfl))⟩
  f21 := ⟨Tryz.f165.name, by decide, Tryz.func165.trans (congrArg some (by kernel_rfl))⟩
  f22 := ⟨Tryz.f166.name, by decide, Tryz.func166.trans (congrArg some (by kernel_rfl))⟩
  f23 := ⟨Tryz.f167.name, by decide, Tryz.func167.trans (congrArg some (by kernel_rfl))⟩
  f24 := ⟨Tryz.f168.name, by decide, Tryz.func168.trans (congrArg some (by kernel_rfl))⟩
  f25 := ⟨Tryz.f169.name, by decide, Tryz.func169.trans (congrArg some (by kernel_rfl))⟩
  f26 := ⟨Tryz.f170.name, by decide, Tryz.func170.trans (congrArg some (by kernel_rfl))⟩
  f27 := ⟨Tryz.f171.name, by decide, Tryz.func171.trans (congrArg some (by kernel_rfl))⟩
  f28 := Tryz.func172.trans (congrArg some (by kernel_rfl))
  f29 := Tryz.func173.trans (congrArg some (by kernel_rfl))
  f46 := ⟨Tryz.f201.name, by decide, Tryz.func201.trans (congrArg some (by kernel_rfl))⟩
  f47 := Tryz.func202.trans (congrArg some (by kernel_rfl))
  f48 := Tryz.func203.trans (congrArg some (by kernel_rfl))
  f49 := ⟨Tryz.f204.name, by decide, Tryz.func204.trans (congrArg some (by kernel_rfl))⟩
  f50 := ⟨Tryz.f205.name, by decide, Tryz.func205.trans (congrArg some (by kernel_rfl))⟩
  f57 := ⟨Tryz.f229.name, by decide, Tryz.func229.trans (congrArg some (by kernel_rfl))⟩
  t0 := Tryz.underlying0
  a0 := Tryz.isAgg0
  z0 := Tryz.sizeOf0
  v0 := Tryz.zeroValue0
  t3 := Tryz.underlying3
  a3 := Tryz.isAgg3
  z3 := Tryz.sizeOf3
  v3 := Tryz.zeroValue3
  t4 := Tryz.underlying4
  a4 := Tryz.isAgg4
  z4 := Tryz.sizeOf4
  v4 := Tryz.zeroValue4
  t5 := Tryz.underlying5
  a5 := Tryz.isAgg5
  z5 := Tryz.sizeOf5
  v5 := Tryz.zeroValue5
  t9 := Tryz.underlying9
  a9 := Tryz.isAgg9
  z9 := Tryz.sizeOf9
  v9 := Tryz.zeroValue9
  t22 := Tryz.underlying143
  a22 := Tryz.isAgg143
  z22 := Tryz.sizeOf143
  v22 := Tryz.zeroValue143
  t25 := Tryz.underlying146
  a25 := Tryz.isAgg146
  z25 := Tryz.sizeOf146
  v25 := Tryz.zeroValue146
  t39 := Tryz.underlying194
  a39 := Tryz.isAgg194
  z39 := Tryz.sizeOf194
  v39 := Tryz.zeroValue194
  t45 := Tryz.underlying219
  a45 := Tryz.isAgg219
  z45 := Tryz.sizeOf219
  v45 := Tryz.zeroValue219
  t46 := Tryz.underlying220
  a46 := Tryz.isAgg220
  z46 := Tryz.sizeOf220
  v46 := Tryz.zeroValue220
  t50 := Tryz.underlying174
  a50 := Tryz.isAgg174
  z50 := Tryz.sizeOf174
  v50 := Tryz.zeroValue174
  t53 := Tryz.underlying226
  a53 := Tryz.isAgg226
  z53 := Tryz.sizeOf226
  v53 := Tryz.zeroValue226
  t55 := Tryz.underlying228
  a55 := Tryz.isAgg228
  z55 := Tryz.sizeOf228
  v55 := Tryz.zeroValue228
  t66 := Tryz.underlying244
  a66 := Tryz.isAgg244
  z66 := Tryz.sizeOf244
  v66 := Tryz.zeroValue244
  t70 := Tryz.underlying208
  a70 := Tryz.isAgg208
  z70 := Tryz.sizeOf208
  v70 := Tryz.zeroValue208
  t76 := Tryz.underlying272
  a76 := Tryz.isAgg272
  z76 := Tryz.sizeOf272
  v76 := Tryz.zeroValue272
  t77 := Tryz.underlying77
  a77 := Tryz.isAgg77
  z77 := Tryz.sizeOf77
  v77 := Tryz.zeroValue77 }
def Tryz.sortInt_ren : Go.Shelf.Ren := ⟨fun | 6 => 97 | 15 => 141 | 14 => 146 | 28 => 172 | 29 => 173 | 20 => 175 | 21 => 176 | 22 => 177 | 23 => 178 | 24 => 179 | 25 => 180 | 26 => 181 | 27 => 182 | 46 => 206 | 47 => 202 | 48 => 203 | 49 => 207 | 50 => 208 | 57 => 230 | n => n, fun | 22 => 22 | 24 => 3 | 25 => 132 | 3 => 3 | 39 => 194 | 0 => 0 | 53 => 226 | 55 => 228 | 4 => 4 | 46 => 220 | 45 => 219 | 50 => 174 | 5 => 5 | 9 => 9 | 66 => 244 | 70 => 208 | 76 => 272 | 77 => 77 | n => n, fun | n => n⟩
theorem Tryz.sortInt : Go.Proofs.SlLaysF.n6 Tryz.prog Tryz.sortInt_ren := {
  mixed := by kernel_rfl
  f6 := ⟨Tryz.f97.name, by decide, Tryz.func97.trans (congrArg some (by kernel_rfl))⟩
  f14 := ⟨Tryz.f146.name, by decide, Tryz.func146.trans (congrArg some (by kernel_rfl))⟩
  f15 := Tryz.func141.trans (congrArg some (by kernel_rfl))
  f20 := ⟨Tryz.f175.name, by decide, Tryz.func175.trans (congrArg some (by kernel_rfl))⟩
  f21 := ⟨Tryz.f176.name, by decide, Tryz.func176.trans (congrArg some (by kernel_rfl))⟩
  f22 := ⟨Tryz.f177.name, by decide, Tryz.func177.trans (congrArg some (by kernel_rfl))⟩
  f23 := ⟨Tryz.f178.name, by decide, Tryz.func178.trans (congrArg some (by kernel_rfl))⟩
  f24 := ⟨Tryz.f179.name, by decide, Tryz.func179.trans (congrArg some (by kernel_rfl))⟩
  f25 := ⟨Tryz.f180.name, by decide, Tryz.func180.trans (congrArg some (by kernel_rfl))⟩
  f26 := ⟨Tryz.f181.name, by decide, Tryz.func181.trans (congrArg some (by kernel_rfl))⟩
  f27 := ⟨Tryz.f182.name, by decide, Tryz.func182.trans (congrArg some (by kernel_rfl))⟩
  f28 := Tryz.func172.trans (congrArg some (by kernel_rfl))
  f29 := Tryz.func173.trans (congrArg some (by kernel_rfl))
  f46 := ⟨Tryz.f206.name, by decide, Tryz.func206.trans (congrArg some (by kernel_rfl))⟩
  f47 := Tryz.func202.trans (congrArg some (by kernel_rfl))
  f48 := Tryz.func203.trans (congrArg some (by kernel_rfl))
  f49 := ⟨Tryz.f207.name, by decide, Tryz.func207.trans (congrArg some (by kernel_rfl))⟩
  f50 := ⟨Tryz.f208.name, by decide, Tryz.func208.trans (congrArg some (by kernel_rfl))⟩
  f57 := ⟨Tryz.f230.name, by decide, Tryz.func230.trans (congrArg some (by kernel_rfl))⟩
  t0 := Tryz.underlying0
  a0 := Tryz.isAgg0
  z0 := Tryz.sizeOf0
  v0 := Tryz.zeroValue0
  t3 := Tryz.underlying3
  a3 := Tryz.isAgg3
  z3 := Tryz.sizeOf3
  v3 := Tryz.zeroValue3
  t4 := Tryz.underlying4
  a4 := Tryz.isAgg4
  z4 := Tryz.sizeOf4
  v4 := Tryz.zeroValue4
  t5 := Tryz.underlying5
  a5 := Tryz.isAgg5
  z5 := Tryz.sizeOf5
  v5 := Tryz.zeroValue5
  t9 := Tryz.underlying9
  a9 := Tryz.isAgg9
  z9 := Tryz.sizeOf9
  v9 := Tryz.zeroValue9
  t22 := Tryz.underlying22
  a22 := Tryz.isAgg22
  z22 := Tryz.sizeOf22
  v22 := Tryz.zeroValue22
  a24 := Tryz.isAgg3
  z24 := Tryz.sizeOf3
  t25 := Tryz.underlying132
  a25 := Tryz.isAgg132
  z25 := Tryz.sizeOf132
  v25 := Tryz.zeroValue132
  t39 := Tryz.underlying194
  a39 := Tryz.isAgg194
  z39 := Tryz.sizeOf194
  v39 := Tryz.zeroValue194
  t45 := Tryz.underlying219
  a45 := Tryz.isAgg219
  z45 := Tryz.sizeOf219
  v45 := Tryz.zeroValue219
  t46 := Tryz.underlying220
  a46 := Tryz.isAgg220
  z46 := Tryz.sizeOf220
  v46 := Tryz.zeroValue220
  t50 := Tryz.underlying174
  a50 := Tryz.isAgg174
  z50 := Tryz.sizeOf174
  v50 := Tryz.zeroValue174
  t53 := Tryz.underlying226
  a53 := Tryz.isAgg226
  z53 := Tryz.sizeOf226
  v53 := Tryz.zeroValue226
  t55 := Tryz.underlying228
  a55 := Tryz.isAgg228
  z55 := Tryz.sizeOf228
  v55 := Tryz.zeroValue228
  t66 := Tryz.underlying244
  a66 := Tryz.isAgg244
  z66 := Tryz.sizeOf244
  v66 := Tryz.zeroValue244
  t70 := Tryz.underlying208
  a70 := Tryz.isAgg208
  z70 := Tryz.sizeOf208
  v70 := Tryz.zeroValue208
  t76 := Tryz.underlying272
  a76 := Tryz.isAgg272
  z76 := Tryz.sizeOf272
  v76 := Tryz.zeroValue272
  t77 := Tryz.underlying77
  a77 := Tryz.isAgg77
  z77 := Tryz.sizeOf77
  v77 := Tryz.zeroValue77 }
end Go.Proofs
set_option maxRecDepth 100000
set_option maxHeartbeats 4000000
set_option linter.unusedSimpArgs false
set_option linter.unusedVariables false
set_option linter.unusedSectionVars false
namespace Go.Proofs.YtabmhfmglhjmjaaGreatDoor
open Go.Ab Go.RowKit
variable [Dr]
def strs (l : List ByteArray) : List AV := l.map fun s => .v (.string s)
abbrev ssl (l : List ByteArray) : AV := .sl 1 l.length (strs l)
theorem strs_len (l : List ByteArray) : (strs l).length = l.length := by simp [strs]
theorem strs_plain : ∀ l : List ByteArray, plainL (strs l) = true
  | [] => rfl
  | s :: l => by
    have := strs_plain l
    unfold strs at *
    simp only [List.map_cons, plainL, AV.plain, this, Bool.and_self]
theorem strs_one : ∀ l : List ByteArray, oneL (strs l) = true
  | [] => rfl
  | s :: l => by
    have := strs_one l
    unfold oneL strs at *
    rw [List.map_cons, List.all_cons, this]
    rfl
theorem strs_snoc (l : List ByteArray) (s : ByteArray) : strs l ++ [.v (.string s)] = strs (l ++ [s]) := by simp [strs]
theorem X11.sbt {x a b : AV} {n : Nat} (h : a = b) : Sb (.tu [.v (.slice none 0 0), x, a]) (.tu [.sl n 0 [], x, b]) := Sb.tuL ⟨Sb.nil _, Sb.refl _, Sb.of_eq h, True.intro⟩
namespace X11
end X11
theorem cmpS_lt (a b : ByteArray) : decide (cmpS a b < 0) = nmLt a b := by
  unfold cmpS
  cases nmLt a b
  · cases nmLt b a <;> rfl
  · rfl
theorem nm_swo {γ : Type} (nm : γ → ByteArray) : Sort.SWO (Proofs.ltOf fun x y => cmpS (nm x) (nm y)) := by
  have key : ∀ x y : γ, Proofs.ltOf (fun x y => cmpS (nm x) (nm y)) x y = nmLt (nm x) (nm y) := fun x y => cmpS_lt _ _
  refine ⟨fun x => ?_, fun x y z h k => ?_, fun x y z h k => ?_⟩
  · rw [key]; exact nmLt_irrefl _
  · rw [key] at *; exact nmLt_trans h k
  · rw [key] at *; exact nmLt_ntrans h k
def natI (l : List Nat) : List Int := l.map fun (i : Nat) => (i : Int)
theorem natI_len (l : List Nat) : (natI l).length = l.length := by simp [natI]
theorem natI_succ (n : Nat) : natI (List.range n) ++ [(n : Int)] = natI (List.range (n + 1)) := by simp [natI, List.range_succ]
theorem gi_natI {l : List Nat} {p : Nat} (h : p < l.length) : gi (natI l) (p : Nat) = (l[p] : Nat) := by simp [gi, natI, h]
theorem m_sortNm (ts : List Tf) (n g c : Int) (G m : Nat) (h1 : 1 ≤ ts.length) (h6 : ts.length ≤ 6) (H : Hp) (nx r : Nat) (hr : H r = some (ints (natI (List.range ts.length)))) (K : AV → Hp → Nat → Prop)
    (hK : ∀ bn : List Nat, bn.Perm (List.range ts.length) → (∀ (p q : Nat) (i j : Nat), p < q → bn[p]? = some i → bn[q]? = some j → nmLt (gt7 ts j).nm (gt7 ts i).nm = false) → K (.tu []) (hset H r (some (ints (natI bn)))) nx) :
    CallM Tryz.prog 97 H nx [.ls r 0 1 ts.length, .fn (.func 98) [] [.pt [tsl ts, iv n, iv g, iv c, .sl 1 m (devC ts G m)] 0]] K := by
  let γ := { j : Nat // j < ts.length }
  haveI : Inhabited γ := ⟨⟨0, h1⟩⟩
  let d : List γ := (List.range ts.length).attachWith (fun j => j < ts.length) fun j hj => List.mem_range.1 hj
  have hdm : d.map (·.1) = List.range ts.length := List.attachWith_map_subtype_val _
  have hdl : d.length = ts.length := by have := congrArg List.length hdm; simpa using this
  have hmm : ∀ l : List γ, (l.map fun z => ((z.1 : Nat) : Int)) = natI (l.map (·.1)) := fun l => by simp [natI]
  have := m_sortI Tryz.sortInt (γ := γ) Tryz.call97 (fun z => ((z.1 : Nat) : Int)) (fun x y => cmpS (gt7 ts x.1).nm (gt7 ts y.1).nm) (nm_swo _) 98 Tryz.call98 [.pt [tsl ts, iv n, iv g, iv c, .sl 1 m (devC ts G m)] 0] (by simp [plainL, AV.plain, tcs_plain, devC_plain]) (fun x y => @c_BC2 drS ts n g c G m x.1 y.1 x.2 y.2) H nx r d
    (by omega) (by omega) (by rw [hr, hmm, hdm]) K (fun ys hp hst => by
      rw [hmm]
      refine hK _ (by rw [← hdm]; exact hp.map _) fun p q i j hpq hi hj => ?_
      rw [List.getElem?_map, Option.map_eq_some_iff] at hi hj
      obtain ⟨x, hx, rfl⟩ := hi
      obtain ⟨y, hy, rfl⟩ := hj
      have := hst p q x y hpq hx hy
      rw [← cmpS_lt]
      exact decide_eq_false (by omega))
  rw [hdl] at this
  exact this
def leftA (dv : Nat → Nat → Int) (c : Int) (K T : Nat) (nm : Nat → ByteArray) : Nat → Int
  | 0 => total7 dv c K T
  | k + 1 => rst dv c K T k (ch7 dv c K T nm k) - dv k (ch7 dv c K T nm k)
def befA (dv : Nat → Nat → Int) (c : Int) (K T : Nat) (nm : Nat → ByteArray) : Nat → Int
  | 0 => -1
  | k + 1 => (ch7 dv c K T nm k : Nat)
def namA (dv : Nat → Nat → Int) (c : Int) (K T : Nat) (nm : Nat → ByteArray) (k : Nat) : List ByteArray := (List.range k).map fun q => nm (ch7 dv c K T nm q)
theorem namA_len (dv : Nat → Nat → Int) (c : Int) (K T : Nat) (nm : Nat → ByteArray) (k : Nat) : (namA dv c K T nm k).length = k := by simp [namA]
theorem namA_succ (dv : Nat → Nat → Int) (c : Int) (K T : Nat) (nm : Nat → ByteArray) (k : Nat) : namA dv c K T nm k ++ [nm (ch7 dv c K T nm k)] = namA dv c K T nm (k + 1) := by simp [namA, List.range_succ]
theorem leftA_eq {dv : Nat → Nat → Int} {c : Int} {K T : Nat} {nm : Nat → ByteArray} {B : Int} (h : Dp dv c K T nm B) {k : Nat} (hk : k < K) : leftA dv c K T nm k = left7 dv c K T nm k := by
  cases k with
  | zero => exact (left7_zero h).symm
  | succ k => exact (left7_succ h hk).symm
theorem pickA {dv : Nat → Nat → Int} {c : Int} {K T : Nat} {nm : Nat → ByteArray} {B : Int} (h : Dp dv c K T nm B) {k : Nat} (hk : k < K) {bn : List Nat} (hbp : bn.Perm (List.range T))
    (hst : ∀ (p q : Nat) (i j : Nat), p < q → bn[p]? = some i → bn[q]? = some j → nmLt (nm j) (nm i) = false) {p j : Nat} (hp : bn[p]? = some j) (hd : dv k j ≠ -1) (hv : val7 dv c K T nm k j = left7 dv c K T nm k)
    (hinv : ∀ (q i : Nat), q < p → bn[q]? = some i → ¬(dv k i ≠ -1 ∧ val7 dv c K T nm k i = left7 dv c K T nm k)) : ch7 dv c K T nm k = j := by
  have hm : ∀ i, i ∈ bn ↔ i < T := fun i => by rw [hbp.mem_iff, List.mem_range]
  refine ch7_unique h hk ((hm j).1 (List.mem_of_getElem? hp)) hd fun i hi hdi => ?_
  obtain ⟨h1, h2, h3⟩ := ch7_ok h hk
  have hle : left7 dv c K T nm k ≤ val7 dv c K T nm k i := by
    unfold left7
    rcases h3 i hi hdi with h4 | ⟨h4, _⟩ <;> omega
  by_cases he : val7 dv c K T nm k i = left7 dv c K T nm k
  · right
    refine ⟨by omega, ?_⟩
    obtain ⟨q, hq⟩ := List.mem_iff_getElem?.1 ((hm i).2 hi)
    rcases Nat.lt_trichotomy q p with hqp | hqp | hqp
    · exact absurd ⟨hdi, he⟩ (hinv q i hqp hq)
    · rw [hqp, hp] at hq
      cases hq
      exact nmLt_irrefl _
    · exact hst p q j i hqp hp hq
  · left; omega
theorem c_BestG (ts : List Tf) (n g c : Int) (N G : Nat) (hT : TkOk ts n g c N G) (hg : ∀ k, k < N → gap7 ts G k = false) (hD : Pure Tryz.prog 93 [tkA ts n g c] (.tu [tkX ts n g c G N, iv 0])) :
    Pure Tryz.prog 23 [tkA ts n g c] (.tu [ssl ((List.range N).map fun k => (gt7 ts (ch7 (dvn ts G) c N ts.length (fun i => (gt7 ts i).nm) k)).nm), iv (total7 (dvn ts G) c N ts.length), iv 0]) := by
  have hdp := tk_dp hT hg
  have h6 := hT.ok.n6
  have hcb := hT.cb
  have hK1 := hT.K1
  have hK20 := hT.K20
  have hdC := devC_len ts G N
  have krest := c_rest ts n g c N G hT hg
  have hbx : ((0 : Int) != 0) = false := rfl
  have htk5 : ∀ a b c d e : AV, List.take 5 [a, b, c, d, e] = [a, b, c, d, e] := fun _ _ _ _ _ => rfl
  unfold tkA tkX at *
  refine p_intro evOk [5, 7, 9, 11, 45] Tryz.func23 rfl Tryz.call23 ?_
  repeat' first
   | refine v_seq ?_ | refine v_block ?_ | refine v_ret ?_ | refine v_skip ?_ | (refine v_exit ?_; repeat' first | refine xB_eq ?_ | refine xB_ne rfl ?_)
   | ((first | refine rgA fun K hK => ?_ | refine rgB rfl fun K hK => ?_ | refine rgC rfl fun K hK => ?_); simp only [go_sem,simprocAttr,hbx,hset_at,hset_hset,spl5,htk5])
   | (simp (disch := first | omega | rfl | (simp only [lnn]; omega)) only [spl])
   | (refine hK _ ?_; clear hK K)
   | (refine gdB_intro (fun h => ?_) (fun h => ?_) <;> simp only [go_sem,simprocAttr,h,hbx,hset_at,hset_hset,spl5,htk5] <;> (have h' := h; try simp only [bl] at h'))
   | (refine v_cond rfl (fun h => ?_) (fun h => ?_) <;> first | (exact Bool.noConfusion h) | (have h' := h; try simp only [bl] at h'))
   | (refine r_ret ?_; simp only [resL, resA, Tryz.f23, lk_cons', lk_nil', Nat.reduceBEq]; first | exact ⟨rfl, Sb.nil _, rfl⟩ | refine ⟨rfl, sbt ?_, rfl⟩ | refine ⟨rfl, Sb.of_eq ?_, rfl⟩)
   | (refine And.intro (by first | exact True.intro | omega | rfl | exact Nat.le_of_ble_eq_true rfl | (simp only [lnn]; omega) | exact List.forall_mem_nil _ | (refine List.forall_mem_cons.2 ⟨⟨_, rfl⟩, ?_⟩; repeat' first | exact List.forall_mem_nil _ | refine List.forall_mem_cons.2 ⟨⟨_, rfl⟩, ?_⟩)) ?_)
   | ((first | refine call_pure' (hD) rfl ?_); simp only [go_sem,simprocAttr,hbx,hset_at,hset_hset,spl5,htk5])
   | fail
  refine call_pure' krest (by simp [plainL, AV.plain, tsl, tcs_plain, devC_plain]) ?_
  simp only [go_sem,simprocAttr,hbx,hset_at,hset_hset,spl5,htk5]
  refine And.intro (by rfl) ?_
  refine hK _ ?_
  clear hK K
  refine vc_ent ((ent_freezeH 0 (c := [tsl ts, iv n, iv g, iv c, .sl 1 N (devC ts G N)]) (by simp [hset_hset, hset_at, hset', spl5]) (by simp [plainL, AV.plain, tsl, tcs_plain, devC_plain])).trans ((ent_freezeH 1 (c := [.sl 1 N (doneR ts c N G N)]) (by simp [hfz, hset_at, AV.fz]) (by simp [plainL, AV.plain, doneR_plain])).trans (ent_rows (fr := [(5, .pt [tsl ts, iv n, iv g, iv c, .sl 1 N (devC ts G N)] 0), (7, .pt [.sl 1 N (doneR ts c N G N)] 0)]) [] ?_ rfl True.intro (Nat.le_refl _)))) ?_
  · simp only [fzF, AV.fz, tsl, isl, iv, cond_false]
    (repeat' first | exact trivial | refine ⟨?_, ?_⟩ | rfl)
  have hR0 : (doneR ts c N G N)[0]? = some (isl (rstRow ts c N G 0)) := by
    have := hK1
    simp only [doneR, List.getElem?_map, List.getElem?_range (show 0 < N by omega), Option.map_some, Nat.sub_self, Nat.add_zero]
  have hrl := rstRow_len ts c N G 0
  have kbest := c_best _ 96 [.pt [.sl 1 N (doneR ts c N G N)] 0] (by simp [plainL, AV.plain, doneR_plain]) (it_first (doneR ts c N G N) (rstRow ts c N G 0) N hK1 hR0 (by rw [hrl]; exact h6))
  have htot : bL (costsTo (rstRow ts c N G 0) (fun k => gi (rstRow ts c N G 0) k) (rstRow ts c N G 0).length) = total7 (dvn ts G) c N ts.length := by
    rw [bL_costs, hrl]
    unfold total7
    refine bestN_congr _ (fun j hj => ?_) (fun j hj _ => ?_)
    · rw [gi_rstRow hj]; rfl
    · rw [gi_rstRow hj]
  rw [htot] at kbest
  repeat' first
   | refine v_seq ?_ | refine v_block ?_ | refine v_ret ?_ | refine v_skip ?_ | (refine v_exit ?_; repeat' first | refine xB_eq ?_ | refine xB_ne rfl ?_)
   | ((first | refine rgA fun K hK => ?_ | refine rgB rfl fun K hK => ?_ | refine rgC rfl fun K hK => ?_); simp only [go_sem,simprocAttr])
   | (simp (disch := first | omega | rfl | (simp only [lnn]; omega)) only [spl])
   | (refine hK _ ?_; clear hK K)
   | (refine gdB_intro (fun h => ?_) (fun h => ?_) <;> simp only [go_sem,simprocAttr,h] <;> (have h' := h; try simp only [bl] at h'))
   | (refine v_cond rfl (fun h => ?_) (fun h => ?_) <;> first | (exact Bool.noConfusion h) | (have h' := h; try simp only [bl] at h'))
   | (refine r_ret ?_; simp only [resL, resA, Tryz.f23, lk_cons', lk_nil', Nat.reduceBEq]; first | exact ⟨rfl, Sb.nil _, rfl⟩ | refine ⟨rfl, sbt ?_, rfl⟩ | refine ⟨rfl, Sb.of_eq ?_, rfl⟩)
   | (refine And.intro (by first | exact True.intro | omega | rfl | exact Nat.le_of_ble_eq_true rfl | (simp only [lnn]; omega) | exact List.forall_mem_nil _ | (refine List.forall_mem_cons.2 ⟨⟨_, rfl⟩, ?_⟩; repeat' first | exact List.forall_mem_nil _ | refine List.forall_mem_cons.2 ⟨⟨_, rfl⟩, ?_⟩)) ?_)
   | ((first | refine call_pure' (kbest) rfl ?_); simp only [go_sem,simprocAttr])
   | fail
  refine v_loop (T := Nat) (fun i => ⟨[(5, .pt [tsl ts, iv n, iv g, iv c, .sl 1 N (devC ts G N)] 0), (7, .pt [.sl 1 N (doneR ts c N G N)] 0), (8, iv (total7 (dvn ts G) c N ts.length)), (9, .ls (2 + i) 0 1 i), (34, iv ts.length), (35, iv i)], hls [(2 + i, ints (natI (List.range i)))], 3 + i, (109, 0, 0)⟩) (fun i => i ≤ ts.length) (fun i => ts.length - i) 0 (by omega) ?_ ?_
  · exact ent_rows [(2 + 0, ints (natI (List.range 0)))] (by (repeat' first | exact trivial | refine ⟨?_, ?_⟩ | rfl)) rfl ⟨⟨by simp [hset', hls, natI, ints], by (first | omega | (dsimp only; omega))⟩, True.intro⟩ (by (first | omega | (dsimp only; omega)))
  intro i hi
  have hnl : (natI (List.range i)).length = i := by simp [natI]
  have hil : (ints (natI (List.range i))).length = i := by rw [ints_length, hnl]
  have htk : List.take i (ints (natI (List.range i))) = ints (natI (List.range i)) := List.take_of_length_le (by omega)
  have e1 : (3 + i == 2 + i) = false := beq_ne (by omega)
  have e2 : (2 + i == 3 + i) = false := beq_ne (by omega)
  by_cases hi2 : i < ts.length
  · have hd : decide ((i : Int) < ts.length) = true := decide_eq_true (by omega)
    repeat' first
     | refine v_seq ?_ | refine v_block ?_ | refine v_ret ?_ | refine v_skip ?_ | (refine v_exit ?_; repeat' first | refine xB_eq ?_ | refine xB_ne rfl ?_)
     | ((first | refine rgA fun K hK => ?_ | refine rgB rfl fun K hK => ?_ | refine rgC rfl fun K hK => ?_); simp only [go_sem,simprocAttr,hd,hls,hset_at,hil,htk,hnl,e1,e2])
     | (simp (disch := first | omega | rfl | (simp only [lnn]; omega)) only [spl])
     | (refine hK _ ?_; clear hK K)
     | (refine gdB_intro (fun h => ?_) (fun h => ?_) <;> simp only [go_sem,simprocAttr,h,hd,hls,hset_at,hil,htk,hnl,e1,e2] <;> (have h' := h; try simp only [bl] at h'))
     | (refine v_cond rfl (fun h => ?_) (fun h => ?_) <;> first | (exact Bool.noConfusion h) | (have h' := h; try simp only [bl] at h'))
     | (refine r_ret ?_; simp only [resL, resA, Tryz.f23, lk_cons', lk_nil', Nat.reduceBEq]; first | exact ⟨rfl, Sb.nil _, rfl⟩ | refine ⟨rfl, sbt ?_, rfl⟩ | refine ⟨rfl, Sb.of_eq ?_, rfl⟩)
     | (refine And.intro (by first | exact True.intro | omega | rfl | exact Nat.le_of_ble_eq_true rfl | (simp only [lnn]; omega) | exact List.forall_mem_nil _ | (refine List.forall_mem_cons.2 ⟨⟨_, rfl⟩, ?_⟩; repeat' first | exact List.forall_mem_nil _ | refine List.forall_mem_cons.2 ⟨⟨_, rfl⟩, ?_⟩)) ?_)
     | (simp only [htk])
     | fail
    refine ⟨i + 1, ?_, by omega, by omega⟩
    have htk2 : List.take i (natI (List.range i)) = natI (List.range i) := List.take_of_length_le (by omega)
    rw [show 2 + (i + 1) = 3 + i by omega, show 3 + (i + 1) = 3 + i + 1 by omega]
    exact ent_rows [(3 + i, ints (natI (List.range (i + 1))))] (by (repeat' first | exact trivial | refine ⟨?_, ?_⟩ | rfl)) rfl ⟨⟨by simp [hset', hls, ← natI_succ, htk2], by (first | omega | (dsimp only; omega))⟩, True.intro⟩ (by (first | omega | (dsimp only; omega)))
  obtain rfl : i = ts.length := by omega
  have hd : decide ((ts.length : Int) < ts.length) = false := decide_eq_false (by omega)
  have hso := m_sortNm ts n g c G N hT.ok.n1 h6 (hls [(2 + ts.length, ints (natI (List.range ts.length)))]) (3 + ts.length) (2 + ts.length) (by simp [hls, hset'])
  repeat' first
   | refine v_seq ?_ | refine v_block ?_ | refine v_ret ?_ | refine v_skip ?_ | (refine v_exit ?_; repeat' first | refine xB_eq ?_ | refine xB_ne rfl ?_)
   | ((first | refine rgA fun K hK => ?_ | refine rgB rfl fun K hK => ?_ | refine rgC rfl fun K hK => ?_); simp only [go_sem,simprocAttr,hd,hls,hset_at,hil,htk,hnl,e1,e2])
   | (simp (disch := first | omega | rfl | (simp only [lnn]; omega)) only [spl])
   | (refine hK _ ?_; clear hK K)
   | (refine gdB_intro (fun h => ?_) (fun h => ?_) <;> simp only [go_sem,simprocAttr,h,hd,hls,hset_at,hil,htk,hnl,e1,e2] <;> (have h' := h; try simp only [bl] at h'))
   | (refine v_cond rfl (fun h => ?_) (fun h => ?_) <;> first | (exact Bool.noConfusion h) | (have h' := h; try simp only [bl] at h'))
   | (refine r_ret ?_; simp only [resL, resA, Tryz.f23, lk_cons', lk_nil', Nat.reduceBEq]; first | exact ⟨rfl, Sb.nil _, rfl⟩ | refine ⟨rfl, sbt ?_, rfl⟩ | refine ⟨rfl, Sb.of_eq ?_, rfl⟩)
   | (refine And.intro (by first | exact True.intro | omega | rfl | exact Nat.le_of_ble_eq_true rfl | (simp only [lnn]; omega) | exact List.forall_mem_nil _ | (refine List.forall_mem_cons.2 ⟨⟨_, rfl⟩, ?_⟩; repeat' first | exact List.forall_mem_nil _ | refine List.forall_mem_cons.2 ⟨⟨_, rfl⟩, ?_⟩)) ?_)
   | (refine hso _ (fun bn hbp hst => ?_); simp only [cmK, go_sem,simprocAttr,hset_at,hset_hset])
   | fail
  have hbl : bn.length = ts.length := by have := hbp.length_eq; simpa using this
  have hbm : ∀ i, i ∈ bn ↔ i < ts.length := fun i => by rw [hbp.mem_iff, List.mem_range]
  have hnbl : (natI bn).length = ts.length := by rw [natI_len, hbl]
  have hst' : ∀ (p q : Nat) (i j : Nat), p < q → bn[p]? = some i → bn[q]? = some j → nmLt ((fun i => (gt7 ts i).nm) j) ((fun i => (gt7 ts i).nm) i) = false := hst
  have hrb := fun k hk i => rst_bound hdp (by decide) (k := k) hk i
  have hKB : (N : Int) * (20000000 + c) ≤ 20 * 21000000 := Int.mul_le_mul (by omega) (by omega) (by omega) (by omega)
  have hdRl := doneR_len ts c N G N
  generalize hnm : (fun i => (gt7 ts i).nm) = nm at *
  refine v_loop (T := Nat × Nat × Nat) (fun x => ⟨[(5, .pt [tsl ts, iv n, iv g, iv c, .sl 1 N (devC ts G N)] 0), (7, .pt [.sl 1 N (doneR ts c N G N)] 0), (8, iv (total7 (dvn ts G) c N ts.length)), (9, isl (natI bn)), (11, .ls x.2.1 0 1 x.1), (12, iv (leftA (dvn ts G) c N ts.length nm x.1)), (13, iv (befA (dvn ts G) c N ts.length nm x.1)), (47, .sl 1 N (doneR ts c N G N)), (48, iv N), (49, iv x.1)], hls [(x.2.1, strs (namA (dvn ts G) c N ts.length nm x.1))], x.2.2, (109, 0, 0)⟩) (fun x => x.1 ≤ N ∧ x.2.1 < x.2.2) (fun x => N - x.1) (0, 3 + ts.length, 4 + ts.length) ⟨by (first | omega | (dsimp only; omega)), by (first | omega | (dsimp only; omega))⟩ ?_ ?_
  · have e3 : (2 + ts.length == 3 + ts.length) = false := beq_ne (by omega)
    have e3' : (3 + ts.length == 2 + ts.length) = false := beq_ne (by omega)
    refine (ent_freezeH (2 + ts.length) (c := ints (natI bn)) (by simp [hls, hset', e3, e3']) (ints_plain _)).trans (ent_rows [(3 + ts.length, strs (namA (dvn ts G) c N ts.length nm 0))] ?_ rfl ⟨⟨?_, by (first | omega | (dsimp only; omega))⟩, True.intro⟩ (by (first | omega | (dsimp only; omega))))
    · have hfz9 : AV.fz (2 + ts.length) (ints (natI bn)) (.ls (2 + ts.length) 0 1 ts.length) = isl (natI bn) := fz_isl (by omega)
      have hfz11 : AV.fz (2 + ts.length) (ints (natI bn)) (.ls (3 + ts.length) 0 1 0) = .ls (3 + ts.length) 0 1 0 := by simp [AV.fz, e3]
      simp only [fzF, hfz9, hfz11]
      simp only [AV.fz, isl, iv, cond_false]
      (repeat' first | exact trivial | refine ⟨?_, ?_⟩ | rfl)
    · simp [hfz, hls, hset', e3, namA, strs]
  rintro ⟨k, r, Y⟩ ⟨hk, hrY⟩
  dsimp only at hk hrY ⊢
  have y2 : (Y == r) = false := beq_ne (by omega)
  have y3 : (r == Y) = false := beq_ne (by omega)
  have hsl : (strs (namA (dvn ts G) c N ts.length nm k)).length = k := by rw [strs_len, namA_len]
  have hso1 := strs_one (namA (dvn ts G) c N ts.length nm k)
  have htk : List.take k (strs (namA (dvn ts G) c N ts.length nm k)) = strs (namA (dvn ts G) c N ts.length nm k) := List.take_of_length_le (by omega)
  by_cases hk2 : k < N
  · have hd : decide ((k : Int) < N) = true := decide_eq_true (by omega)
    have b1 : (doneR ts c N G N)[((k : Nat) : Int).toNat * 1]? = some (isl (rstRow ts c N G k)) := by
      rw [Int.toNat_natCast, Nat.mul_one]
      simp only [doneR, List.getElem?_map, List.getElem?_range hk2, Option.map_some, Nat.sub_self, Nat.zero_add]
    have b1' : (doneR ts c N G N)[((k : Nat) : Int).toNat]? = some (isl (rstRow ts c N G k)) := by rw [Nat.mul_one] at b1; exact b1
    have hl7 := leftA_eq hdp hk2
    have hRl := rstRow_len ts c N G k
    repeat' first
     | refine v_seq ?_ | refine v_block ?_ | refine v_ret ?_ | refine v_skip ?_ | (refine v_exit ?_; repeat' first | refine xB_eq ?_ | refine xB_ne rfl ?_)
     | ((first | refine rgA fun K hK => ?_ | refine rgB rfl fun K hK => ?_ | refine rgC rfl fun K hK => ?_); simp only [go_sem,simprocAttr,hd,hls,hdRl,b1,b1'])
     | (simp (disch := first | omega | rfl | (simp only [lnn]; omega)) only [spl])
     | (refine hK _ ?_; clear hK K)
     | (refine gdB_intro (fun h => ?_) (fun h => ?_) <;> simp only [go_sem,simprocAttr,h,hd,hls,hdRl,b1,b1'] <;> (have h' := h; try simp only [bl] at h'))
     | (refine v_cond rfl (fun h => ?_) (fun h => ?_) <;> first | (exact Bool.noConfusion h) | (have h' := h; try simp only [bl] at h'))
     | (refine r_ret ?_; simp only [resL, resA, Tryz.f23, lk_cons', lk_nil', Nat.reduceBEq]; first | exact ⟨rfl, Sb.nil _, rfl⟩ | refine ⟨rfl, sbt ?_, rfl⟩ | refine ⟨rfl, Sb.of_eq ?_, rfl⟩)
     | (refine And.intro (by first | exact True.intro | omega | rfl | exact Nat.le_of_ble_eq_true rfl | (simp only [lnn]; omega) | exact List.forall_mem_nil _ | (refine List.forall_mem_cons.2 ⟨⟨_, rfl⟩, ?_⟩; repeat' first | exact List.forall_mem_nil _ | refine List.forall_mem_cons.2 ⟨⟨_, rfl⟩, ?_⟩)) ?_)
     | (simp only [go_sem,simprocAttr,hdRl,b1,b1',isl])
     | fail
    refine v_loop (T := Nat) (fun p => ⟨[(5, .pt [tsl ts, iv n, iv g, iv c, .sl 1 N (devC ts G N)] 0), (7, .pt [.sl 1 N (doneR ts c N G N)] 0), (8, iv (total7 (dvn ts G) c N ts.length)), (9, isl (natI bn)), (11, .ls r 0 1 k), (12, iv (leftA (dvn ts G) c N ts.length nm k)), (13, iv (befA (dvn ts G) c N ts.length nm k)), (14, iv k), (15, isl (rstRow ts c N G k)), (47, .sl 1 N (doneR ts c N G N)), (48, iv N), (49, iv k), (54, isl (natI bn)), (55, iv (natI bn).length), (56, iv p)], hls [(r, strs (namA (dvn ts G) c N ts.length nm k))], Y, (109, 0, 0)⟩) (fun p => p ≤ ts.length ∧ ∀ (q i : Nat), q < p → bn[q]? = some i → ¬(dvn ts G k i ≠ -1 ∧ val7 (dvn ts G) c N ts.length nm k i = left7 (dvn ts G) c N ts.length nm k)) (fun p => ts.length - p) 0 ⟨by omega, fun q i hq => absurd hq (by omega)⟩ ?_ ?_
    · exact ent_rows _ (by (repeat' first | exact trivial | refine ⟨?_, ?_⟩ | rfl)) rfl ⟨⟨hset_at _ _ _, by (first | omega | (dsimp only; omega))⟩, True.intro⟩ (Nat.le_refl _)
    rintro p ⟨hp, hinv⟩
    by_cases hp2 : p < ts.length
    · have hd2 : decide ((p : Int) < (natI bn).length) = true := decide_eq_true (by omega)
      obtain ⟨j, hj⟩ : ∃ j, bn[p]? = some j := ⟨bn[p]'(by omega), List.getElem?_eq_getElem _⟩
      have hjT : j < ts.length := (hbm j).1 (List.mem_of_getElem? hj)
      have hgp : gi (natI bn) (p : Nat) = (j : Nat) := by
        rw [gi_natI (by omega)]
        have hj2 := hj
        rw [List.getElem?_eq_getElem (by omega), Option.some.injEq] at hj2
        rw [hj2]
      have hgr : gi (rstRow ts c N G k) (j : Nat) = rst (dvn ts G) c N ts.length k j := gi_rstRow hjT
      have hgd : gi (devRow ts G k) (j : Nat) = dvn ts G k j := gi_devRow hjT
      have hdl := devRow_len ts G k
      have hrb1 := hrb k hk2 j
      have hdr := hdp.rng k j
      have hok := okR_iff hdp hk2 j
      have d1 : (devC ts G N)[((k : Nat) : Int).toNat * 1]? = some (isl (devRow ts G k)) := by rw [Int.toNat_natCast, Nat.mul_one]; exact devC_at (by omega)
      have d1' : (devC ts G N)[((k : Nat) : Int).toNat]? = some (isl (devRow ts G k)) := devC_at (by omega)
      have d0 : (devC ts G N)[0]? = some (isl (devRow ts G 0)) := devC_at (by omega)
      have t1 : (tcs ts)[((j : Nat) : Int).toNat * 3]? = some (.v (.string (gt7 ts j).nm)) := tcs_0 hjT
      rw [hl7]
      generalize hLV : left7 (dvn ts G) c N ts.length nm k = L at *
      have hnj : (gt7 ts j).nm = nm j := congrFun hnm j
      rw [hnj] at t1
      have hstep : ∀ b : Int, val7 (dvn ts G) c N ts.length nm k j = b + rst (dvn ts G) c N ts.length k j → (gi (rstRow ts c N G k) (j : Nat) = -1 ∨ ¬b + gi (rstRow ts c N G k) (j : Nat) = L) →
          ∀ (q i : Nat), q < p + 1 → bn[q]? = some i → ¬(dvn ts G k i ≠ -1 ∧ val7 (dvn ts G) c N ts.length nm k i = L) := by
        rintro b hb hor q i hq hqi ⟨h1, h2⟩
        by_cases hqp : q < p
        · exact hinv q i hqp hqi ⟨h1, h2⟩
        · obtain rfl : q = p := by omega
          rw [hj] at hqi
          cases hqi
          have h3 := hok.2 h1
          unfold okR at h3
          have h4 : rst (dvn ts G) c N ts.length k j ≠ -1 := by simpa using h3
          omega
      have hpick : ∀ b : Int, val7 (dvn ts G) c N ts.length nm k j = b + rst (dvn ts G) c N ts.length k j → ¬gi (rstRow ts c N G k) (j : Nat) = -1 → b + gi (rstRow ts c N G k) (j : Nat) = L →
          leftA (dvn ts G) c N ts.length nm (k + 1) = gi (rstRow ts c N G k) (j : Nat) - dvn ts G k j ∧ befA (dvn ts G) c N ts.length nm (k + 1) = (j : Nat) ∧ namA (dvn ts G) c N ts.length nm k ++ [nm j] = namA (dvn ts G) c N ts.length nm (k + 1) := by
        intro b hb h1 h2
        have h4 : dvn ts G k j ≠ -1 := hok.1 (by unfold okR; rw [← hgr]; simpa using h1)
        have h5 := pickA hdp hk2 hbp hst' hj h4 (by omega) (by rw [hLV]; exact hinv)
        rw [← namA_succ, h5]
        refine ⟨?_, ?_, rfl⟩
        · rw [show leftA (dvn ts G) c N ts.length nm (k + 1) = rst (dvn ts G) c N ts.length k (ch7 (dvn ts G) c N ts.length nm k) - dvn ts G k (ch7 (dvn ts G) c N ts.length nm k) from rfl, h5, hgr]
        · rw [show befA (dvn ts G) c N ts.length nm (k + 1) = (ch7 (dvn ts G) c N ts.length nm k : Nat) from rfl, h5]
      have hcj := fun i => chg_bound hcb.1 i j
      rcases Nat.eq_zero_or_pos k with hk0 | hk0
      · have hbf : befA (dvn ts G) c N ts.length nm k = -1 := by rw [hk0]; rfl
        have hval : val7 (dvn ts G) c N ts.length nm k j = 0 + rst (dvn ts G) c N ts.length k j := by rw [hk0, Int.zero_add]; rfl
        have hbb : ((-1 : Int) != -1) = false := rfl
        rw [hbf]
        clear hbf
        repeat' first
         | refine v_seq ?_ | refine v_block ?_ | refine v_ret ?_ | refine v_skip ?_ | (refine v_exit ?_; repeat' first | refine xB_eq ?_ | refine xB_ne rfl ?_)
         | ((first | refine rgA fun K hK => ?_ | refine rgB rfl fun K hK => ?_ | refine rgC rfl fun K hK => ?_); simp only [go_sem,simprocAttr,hd2,hbb,hls,hgp,hgd,d1,d1',t1,hset_at,hset_hset,hsl,hso1,htk,y2,y3])
         | (simp (disch := first | omega | rfl | (simp only [lnn]; omega)) only [spl])
         | (refine hK _ ?_; clear hK K)
         | (refine gdB_intro (fun h => ?_) (fun h => ?_) <;> simp only [go_sem,simprocAttr,h,hd2,hbb,hls,hgp,hgd,d1,d1',t1,hset_at,hset_hset,hsl,hso1,htk,y2,y3] <;> (have h' := h; try simp only [bl] at h'))
         | (refine v_cond rfl (fun h => ?_) (fun h => ?_) <;> first | (exact Bool.noConfusion h) | (have h' := h; try simp only [bl] at h'))
         | (refine r_ret ?_; simp only [resL, resA, Tryz.f23, lk_cons', lk_nil', Nat.reduceBEq]; first | exact ⟨rfl, Sb.nil _, rfl⟩ | refine ⟨rfl, sbt ?_, rfl⟩ | refine ⟨rfl, Sb.of_eq ?_, rfl⟩)
         | (refine And.intro (by first | exact True.intro | omega | rfl | exact Nat.le_of_ble_eq_true rfl | (simp only [lnn]; omega) | exact List.forall_mem_nil _ | (refine List.forall_mem_cons.2 ⟨⟨_, rfl⟩, ?_⟩; repeat' first | exact List.forall_mem_nil _ | refine List.forall_mem_cons.2 ⟨⟨_, rfl⟩, ?_⟩)) ?_)
         | (simp only [go_sem,simprocAttr,d1,d1',t1,hsl,hso1,htk,isl,tsl,hset_at,hset_hset,y2,y3])
         | (simp only [htk])
         | fail
        · refine ⟨p + 1, ?_, ⟨by omega, hstep _ hval (.inl (by assumption))⟩, by omega⟩
          exact ent_rows _ (by (repeat' first | exact trivial | refine ⟨?_, ?_⟩ | rfl)) rfl ⟨⟨hset_at _ _ _, by (first | omega | (dsimp only; omega))⟩, True.intro⟩ (Nat.le_refl _)
        · refine ⟨p + 1, ?_, ⟨by omega, hstep _ hval (.inr (by assumption))⟩, by omega⟩
          exact ent_rows _ (by (repeat' first | exact trivial | refine ⟨?_, ?_⟩ | rfl)) rfl ⟨⟨hset_at _ _ _, by (first | omega | (dsimp only; omega))⟩, True.intro⟩ (Nat.le_refl _)
        · obtain ⟨p1, p2, p3⟩ := hpick _ hval (by assumption) (by assumption)
          refine ⟨(k + 1, Y, Y + 1), ?_, ⟨by (first | omega | (dsimp only; omega)), by (first | omega | (dsimp only; omega))⟩, by (first | omega | (dsimp only; omega))⟩
          dsimp only
          rw [p1, p2, ← p3, ← strs_snoc]
          refine ent_rows _ (by (repeat' first | exact trivial | refine ⟨?_, ?_⟩ | rfl)) rfl ⟨⟨?_, ?_⟩, True.intro⟩ (Nat.le_refl _)
          · exact hset_at _ _ _
          · (first | omega | (dsimp only; omega))
      · obtain ⟨k', hk'⟩ : ∃ k', k = k' + 1 := ⟨k - 1, by omega⟩
        have hbf : befA (dvn ts G) c N ts.length nm k = (ch7 (dvn ts G) c N ts.length nm k' : Nat) := by rw [hk']; rfl
        have hval : val7 (dvn ts G) c N ts.length nm k j = chg c (ch7 (dvn ts G) c N ts.length nm k') j + rst (dvn ts G) c N ts.length k j := by rw [hk']; rfl
        rw [hbf]
        clear hbf
        generalize ch7 (dvn ts G) c N ts.length nm k' = b at *
        have hbb : (((b : Nat) : Int) != -1) = true := by simp
        have hcb2 := hcj b
        have kch := c_change ts n g c G N b j
        unfold tkX at kch
        repeat' first
         | refine v_seq ?_ | refine v_block ?_ | refine v_ret ?_ | refine v_skip ?_ | (refine v_exit ?_; repeat' first | refine xB_eq ?_ | refine xB_ne rfl ?_)
         | ((first | refine rgA fun K hK => ?_ | refine rgB rfl fun K hK => ?_ | refine rgC rfl fun K hK => ?_); simp only [go_sem,simprocAttr,hd2,hbb,hls,hgp,hgd,d1,d1',t1,hset_at,hset_hset,hsl,hso1,htk,y2,y3])
         | (simp (disch := first | omega | rfl | (simp only [lnn]; omega)) only [spl])
         | (refine hK _ ?_; clear hK K)
         | (refine gdB_intro (fun h => ?_) (fun h => ?_) <;> simp only [go_sem,simprocAttr,h,hd2,hbb,hls,hgp,hgd,d1,d1',t1,hset_at,hset_hset,hsl,hso1,htk,y2,y3] <;> (have h' := h; try simp only [bl] at h'))
         | (refine v_cond rfl (fun h => ?_) (fun h => ?_) <;> first | (exact Bool.noConfusion h) | (have h' := h; try simp only [bl] at h'))
         | (refine r_ret ?_; simp only [resL, resA, Tryz.f23, lk_cons', lk_nil', Nat.reduceBEq]; first | exact ⟨rfl, Sb.nil _, rfl⟩ | refine ⟨rfl, sbt ?_, rfl⟩ | refine ⟨rfl, Sb.of_eq ?_, rfl⟩)
         | (refine And.intro (by first | exact True.intro | omega | rfl | exact Nat.le_of_ble_eq_true rfl | (simp only [lnn]; omega) | exact List.forall_mem_nil _ | (refine List.forall_mem_cons.2 ⟨⟨_, rfl⟩, ?_⟩; repeat' first | exact List.forall_mem_nil _ | refine List.forall_mem_cons.2 ⟨⟨_, rfl⟩, ?_⟩)) ?_)
         | ((first | refine call_pure' (kch) rfl ?_); simp only [go_sem,simprocAttr,hd2,hbb,hls,hgp,hgd,d1,d1',t1,hset_at,hset_hset,hsl,hso1,htk,y2,y3])
         | (simp only [go_sem,simprocAttr,d1,d1',t1,hsl,hso1,htk,isl,tsl,hset_at,hset_hset,y2,y3])
         | (simp only [htk])
         | fail
        · refine ⟨p + 1, ?_, ⟨by omega, hstep _ hval (.inl (by assumption))⟩, by omega⟩
          exact ent_rows _ (by (repeat' first | exact trivial | refine ⟨?_, ?_⟩ | rfl)) rfl ⟨⟨hset_at _ _ _, by (first | omega | (dsimp only; omega))⟩, True.intro⟩ (Nat.le_refl _)
        · refine ⟨p + 1, ?_, ⟨by omega, hstep _ hval (.inr (by assumption))⟩, by omega⟩
          exact ent_rows _ (by (repeat' first | exact trivial | refine ⟨?_, ?_⟩ | rfl)) rfl ⟨⟨hset_at _ _ _, by (first | omega | (dsimp only; omega))⟩, True.intro⟩ (Nat.le_refl _)
        · obtain ⟨p1, p2, p3⟩ := hpick _ hval (by assumption) (by assumption)
          refine ⟨(k + 1, Y, Y + 1), ?_, ⟨by (first | omega | (dsimp only; omega)), by (first | omega | (dsimp only; omega))⟩, by (first | omega | (dsimp only; omega))⟩
          dsimp only
          rw [p1, p2, ← p3, ← strs_snoc]
          refine ent_rows _ (by (repeat' first | exact trivial | refine ⟨?_, ?_⟩ | rfl)) rfl ⟨⟨?_, ?_⟩, True.intro⟩ (Nat.le_refl _)
          · exact hset_at _ _ _
          · (first | omega | (dsimp only; omega))
    · exfalso
      obtain ⟨c1, c2, _⟩ := ch7_ok hdp hk2
      obtain ⟨q, hq⟩ := List.mem_iff_getElem?.1 ((hbm _).2 c1)
      have hq2 : q < bn.length := (List.getElem?_eq_some_iff.1 hq).1
      exact hinv q _ (by omega) hq ⟨c2, rfl⟩
  · obtain rfl : k = N := by omega
    have hd : decide ((k : Int) < k) = false := decide_eq_false (by omega)
    repeat' first
     | refine v_seq ?_ | refine v_block ?_ | refine v_ret ?_ | refine v_skip ?_ | (refine v_exit ?_; repeat' first | refine xB_eq ?_ | refine xB_ne rfl ?_)
     | ((first | refine rgA fun K hK => ?_ | refine rgB rfl fun K hK => ?_ | refine rgC rfl fun K hK => ?_); simp only [go_sem,simprocAttr,hd,hls])
     | (simp (disch := first | omega | rfl | (simp only [lnn]; omega)) only [spl])
     | (refine hK _ ?_; clear hK K)
     | (refine gdB_intro (fun h => ?_) (fun h => ?_) <;> simp only [go_sem,simprocAttr,h,hd,hls] <;> (have h' := h; try simp only [bl] at h'))
     | (refine v_cond rfl (fun h => ?_) (fun h => ?_) <;> first | (exact Bool.noConfusion h) | (have h' := h; try simp only [bl] at h'))
     | (refine r_ret ?_; simp only [resL, resA, Tryz.f23, lk_cons', lk_nil', Nat.reduceBEq]; first | exact ⟨rfl, Sb.nil _, rfl⟩ | refine ⟨rfl, sbt ?_, rfl⟩ | refine ⟨rfl, Sb.of_eq ?_, rfl⟩)
     | (refine And.intro (by first | exact True.intro | omega | rfl | exact Nat.le_of_ble_eq_true rfl | (simp only [lnn]; omega) | exact List.forall_mem_nil _ | (refine List.forall_mem_cons.2 ⟨⟨_, rfl⟩, ?_⟩; repeat' first | exact List.forall_mem_nil _ | refine List.forall_mem_cons.2 ⟨⟨_, rfl⟩, ?_⟩)) ?_)
     | fail
    refine r_freeze r (hset_at emp r _) (strs_plain _) (r_ret ?_)
    have hle : 0 + k * 1 ≤ (strs (namA (dvn ts G) c k ts.length nm k)).length := by rw [hsl]; omega
    have htk1 : List.take (k * 1) (List.drop 0 (strs (namA (dvn ts G) c k ts.length nm k))) = strs (namA (dvn ts G) c k ts.length nm k) := List.take_of_length_le (by rw [List.drop_zero, hsl]; omega)
    simp only [resL, resA, Tryz.f23, fzF, lk_cons', lk_nil', Nat.reduceBEq, AV.fz, beq_self_eq_true, cond_true, if_pos hle, htk1]
    subst hnm
    have hpl : ∀ a b : Int, (AV.tu [AV.sl 1 k (strs (namA (dvn ts G) c k ts.length (fun i => (gt7 ts i).nm) k)), iv a, iv b]).plain = true := fun a b => by simp [plainL, AV.plain, strs_plain]
    refine ⟨hpl _ _, Sb.of_eq ?_, by simp [plainL, AV.plain, strs_plain]⟩
    unfold ssl namA
    simp only [List.length_map, List.length_range]
end Go.Proofs.YtabmhfmglhjmjaaGreatDoor
