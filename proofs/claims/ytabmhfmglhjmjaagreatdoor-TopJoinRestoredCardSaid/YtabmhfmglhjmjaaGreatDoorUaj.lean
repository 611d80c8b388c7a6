/- Parts of the proof, put together by a program. -/
import Derived.Shelf.SlSortCmp.WholeK
import Derived.Shelf.SlSortCmp.Whole1
import Derived.Ground.SlsfProg
import Derived.Test.YtabmhfmglhjmjaaGreatDoorProg
import Derived.Test.YtabmhfmglhjmjaaGreatDoorUac
set_option maxRecDepth 100000
set_option maxHeartbeats 4000000
set_option linter.unusedSimpArgs false
set_option linter.unusedVariables false
set_option linter.unusedSectionVars false
namespace Go.Ab
variable [Dr]
open Go.RowKit
theorem flat_get {β : Type} {av : β → List AV} {k : Nat} : ∀ {d : List β}, (∀ x ∈ d, (av x).length = k) → ∀ (i t : Nat), t < k → (d.flatMap av)[i * k + t]? = (d[i]?).bind fun x => (av x)[t]?
  | [], _, i, t, _ => by simp
  | x :: d, hk, i, t, ht => by
    have hx := hk x (by simp)
    rw [List.flatMap_cons]
    cases i with
    | zero =>
      rw [Nat.zero_mul, Nat.zero_add, List.getElem?_append_left (by omega)]
      simp
    | succ i =>
      rw [show (i + 1) * k + t = k + (i * k + t) by rw [Nat.succ_mul]; omega, List.getElem?_append_right (by omega), hx, Nat.add_sub_cancel_left, flat_get (fun y hy => hk y (by simp [hy])) i t ht]
      simp
theorem flat_len {β : Type} {av : β → List AV} {k : Nat} : ∀ {d : List β}, (∀ x ∈ d, (av x).length = k) → (d.flatMap av).length = d.length * k
  | [], _ => by simp
  | x :: d, hk => by
    rw [List.flatMap_cons, List.length_append, hk x (by simp), flat_len fun y hy => hk y (by simp [hy]), List.length_cons, Nat.succ_mul]
    omega
theorem putRow_set {w : World} {b st : Nat} {F old : Array Value} {e : TypeId} (hb : w.heap[b]? = some (Obj.cells old e (0, 0))) : Sort.putRow id w b st F = w.setRow b (Sort.putCells id st F old) := by
  have h1 : Sort.putRow id w b st F = Sort.mapBlock w b (fun _ => Sort.putCells id st F old) := by
    unfold Sort.putRow
    refine Sort.mapBlock_congr _ _ _ _ fun c e' fr h => ?_
    rw [hb] at h
    cases h
    rfl
  rw [h1]
  unfold Sort.mapBlock World.setRow
  congr 1
theorem putRow_setG {α : Type} [Inhabited α] (en : α → Value) {w : World} {b st : Nat} {F : Array α} {old : Array Value} {e : TypeId} (hb : w.heap[b]? = some (Obj.cells old e (0, 0))) : Sort.putRow en w b st F = w.setRow b (Sort.putCells en st F old) := by
  have h1 : Sort.putRow en w b st F = Sort.mapBlock w b (fun _ => Sort.putCells en st F old) := by
    unfold Sort.putRow
    refine Sort.mapBlock_congr _ _ _ _ fun c e' fr h => ?_
    rw [hb] at h
    cases h
    rfl
  rw [h1]
  unfold Sort.mapBlock World.setRow
  congr 1
theorem gr_ahead (w : World) (n : Nat) : Gr w (Sort.ahead w n) := ⟨rfl, rfl, rfl, .of (Nat.le_add_right _ _), Nat.le_refl _, fun _ _ => rfl⟩
theorem gr_grow (w : World) (os : Array Obj) : Gr w (Sort.grow w os) := ⟨rfl, rfl, rfl, .of (Nat.le_refl _), by simp [Sort.grow], fun k hk => by simp [Sort.grow, Array.getElem?_append_left hk]⟩
omit [Dr] in
theorem grow_of_gr {w w' : World} (h : @Gr drS w w') : ∃ q os', w' = Sort.grow (w.drewN q) os' := by
  refine ⟨w'.drawn - w.drawn, w'.heap.extract w.heap.size w'.heap.size, ?_⟩
  have hh : w'.heap = w.heap ++ w'.heap.extract w.heap.size w'.heap.size := by
    apply Array.ext_getElem?
    intro i
    have hs := (@Gr.size drS _ _ h)
    rcases Nat.lt_or_ge i w.heap.size with hi | hi
    · rw [Array.getElem?_append_left hi, (@Gr.block drS _ _ h) i hi]
    · rw [Array.getElem?_append_right hi, Array.getElem?_extract]
      rcases Nat.lt_or_ge i w'.heap.size with h2 | h2
      · rw [if_pos (by omega), show w.heap.size + (i - w.heap.size) = i by omega]
      · rw [if_neg (by omega), Array.getElem?_eq_none h2]
  have hd : w.drawn ≤ w'.drawn := (@Gr.drawn drS _ _ h).resolve_left id
  have hos := (@Gr.os drS _ _ h)
  have htp := (@Gr.tape drS _ _ h)
  have hou := (@Gr.output drS _ _ h)
  obtain ⟨heap, tape, drawn, os, output⟩ := w
  obtain ⟨heap', tape', drawn', os', output'⟩ := w'
  dsimp only at hh hd hos htp hou
  subst hos htp hou
  unfold Sort.grow World.drewN
  dsimp only
  rw [← hh, show drawn + (drawn' - drawn) = drawn' by omega]
def CmpA {β : Type} (P : Program) (g : Nat) (caps : List AV) (av : β → List AV) (cf : β → β → Int) : Prop :=
  ∀ (x y : β) (us vs cb : Array Value) (O : Nat → Prop) (w : World), Rps O w (av x) us → Rps O w (av y) vs → Rps O w caps cb → Bk O w →
    Calls P g (#[.agg us, .agg vs] ++ cb) w fun e w' => e = .returned (.int .i64 (cf x y)) ∧ ∃ q os', w' = Sort.grow (w.drewN q) os'
theorem rps_app {O : Nat → Prop} {w : World} {ms cs : List AV} {us vs : Array Value} (h : Rps O w ms us) (k : Rps O w cs vs) : Rps O w (ms ++ cs) (us ++ vs) := by
  refine ⟨by simp [h.1, k.1], fun i a ha => ?_⟩
  rcases Nat.lt_or_ge i ms.length with hi | hi
  · rw [List.getElem?_append_left hi] at ha
    rw [Array.getElem?_append_left (by rw [h.1]; exact hi)]
    exact h.2 i a ha
  · rw [List.getElem?_append_right hi] at ha
    rw [Array.getElem?_append_right (by rw [h.1]; exact hi), h.1]
    exact k.2 _ a ha
theorem cmpA_of {β : Type} {P : Program} {g : Nat} {caps : List AV} {av : β → List AV} {cf : β → β → Int} (h : ∀ x y, @Pure drS P g ([.ag (av x), .ag (av y)] ++ caps) (.v (.int .i64 (cf x y)))) : CmpA P g caps av cf := by
  intro x y us vs cb O w hu hv hcb hO
  have hag : ∀ {cs : List AV} {us : Array Value}, Rps O w cs us → Rp O w (.ag cs) (.agg us) := fun {cs us} h => by
    obtain ⟨f, hf⟩ := pick_family h.2
    exact .ag cs us f h.1 (fun i c hc => (hf i c hc).1) (fun i c hc => (hf i c hc).2)
  refine (@Pure.run drS _ _ _ _ (h x y) O w _ (rps_app (us := #[.agg us, .agg vs]) ⟨rfl, fun i a ha => ?_⟩ hcb) ⟨hO, True.intro⟩).mono fun e w' ⟨u, he, hg, hr⟩ => ?_
  · match i with
    | 0 => simp only [List.getElem?_cons_zero, Option.some.injEq] at ha; subst ha; exact ⟨_, rfl, hag hu⟩
    | 1 => simp only [List.getElem?_cons_succ, List.getElem?_cons_zero, Option.some.injEq] at ha; subst ha; exact ⟨_, rfl, hag hv⟩
    | i + 2 => simp at ha
  · obtain rfl := hr.v_inv
    exact ⟨he, grow_of_gr hg⟩
def El {β : Type} (k : Nat) (av : β → List AV) (O : Nat → Prop) (w : World) : Type := { p : β × List Value // p.2.length = k ∧ (∀ v ∈ p.2, v.oneCell' = true) ∧ Rps O w (av p.1) p.2.toArray }
theorem m_sortK {P : Program} {ρ : Shelf.Ren} (L : Proofs.SlLaysF0.n6 P ρ) {γ : Type} (k : Nat) (aE : ∀ w, (isAgg (ρ.t 24)).run P w = .ok true w) (zE : ∀ w, (Go.sizeOf (ρ.t 24)).run P w = .ok k w)
    (hcan : Callable P (ρ.f 6)) (av : γ → List AV) (cf : γ → γ → Int) (hO : Sort.SWO (Proofs.ltOf cf)) (g : Nat) (eg : Callable P g) (caps : List AV) (hcp : plainL caps = true) (hcmp : CmpA P g caps av cf)
    (H : Hp) (nx r : Nat) (d : List γ) (hd : 1 ≤ d.length) (hd2 : d.length < 4611686018427387904) (hr : H r = some (d.flatMap av)) (hk : ∀ x ∈ d, (av x).length = k) (hp : ∀ x ∈ d, plainL (av x) = true) (h1 : ∀ x ∈ d, oneL (av x) = true)
    (K : AV → Hp → Nat → Prop) (hK : ∀ ys : List γ, ys.Perm d → (∀ (i j : Nat) x y, i < j → ys[i]? = some x → ys[j]? = some y → 0 ≤ cf y x) → K (.tu []) (hset H r (some (ys.flatMap av))) nx) :
    CallM P (ρ.f 6) H nx [.ls r 0 k d.length, .fn (.func g) [] caps] K := by
  refine ⟨hcan, fun gh β O w vs hc hB hv => ?_⟩
  obtain ⟨u0, hu0, hr0⟩ := hv.2 0 _ rfl
  obtain ⟨u1, hu1, hr1⟩ := hv.2 1 _ rfl
  obtain ⟨us, cb, rfl, hus, hvs, _, hcb⟩ := hr1.fn_inv
  have hus0 : us = #[] := Array.eq_empty_of_size_eq_zero (by simpa using hus)
  subst hus0
  have hcb : Rps O w caps cb := ⟨hvs, fun i a ha => (hcb i a ha).imp fun u hu => ⟨hu.1, hu.2.plain (plainL_get hcp ha)⟩⟩
  rcases hr0.ls_inv with ⟨_, h0, _⟩ | ⟨b, st, cap, hβ, hcap, rfl, _⟩
  · omega
  have hvs2 : vs = #[Value.slice (some ⟨b, st + 0, none⟩) d.length cap, Value.func (.func g) #[] cb] := by
    refine Array.ext_getElem? fun i => ?_
    match i with
    | 0 => simpa using hu0
    | 1 => simpa using hu1
    | i + 2 =>
      have : vs.size = 2 := hv.1
      rw [Array.getElem?_eq_none (by omega), Array.getElem?_eq_none (by simp)]
  subst hvs2
  clear hu0 hu1
  rcases hc.row r _ hr with ⟨h2, _⟩ | ⟨b', st', h2, hOb, hBb, hrow⟩
  · rw [hβ] at h2; cases h2
  rw [hβ] at h2
  cases h2
  have hblk := hrow.lt
  obtain ⟨arr, e, hb, hsz, hcell⟩ := hrow
  rw [flat_len hk] at hsz
  have hel : ∀ (i : Nat) (x : _), d[i]? = some x → ∃ l : List Value, l.length = k ∧ (∀ v ∈ l, v.oneCell' = true) ∧ Rps O w (av x) l.toArray ∧ ∀ t, t < k → arr[st + (i * k + t)]? = l[t]? := fun i x hx => by
    have hxd : x ∈ d := List.mem_of_getElem? hx
    have hil : i < d.length := (List.getElem?_eq_some_iff.1 hx).1
    have hik : i * k + k ≤ d.length * k := by rw [← Nat.succ_mul]; exact Nat.mul_le_mul_right k hil
    have hget : ∀ t, t < k → ∃ u, arr[st + (i * k + t)]? = some u ∧ ∀ a, (av x)[t]? = some a → R β O w a u := fun t ht => by
      have ha : (d.flatMap av)[i * k + t]? = some ((av x)[t]'(by rw [hk x hxd]; exact ht)) := by
        rw [flat_get hk i t ht, hx, Option.bind_some, List.getElem?_eq_getElem]
      obtain ⟨u, hu, hR⟩ := hcell _ _ ha
      refine ⟨u, hu, fun a ha' => ?_⟩
      rw [List.getElem?_eq_getElem (by rw [hk x hxd]; exact ht)] at ha'
      cases ha'
      exact hR
    obtain ⟨f, hf⟩ : ∃ f : Nat → Value, ∀ t, t < k → arr[st + (i * k + t)]? = some (f t) ∧ ∀ a, (av x)[t]? = some a → R β O w a (f t) :=
      ⟨fun t => if ht : t < k then (hget t ht).choose else default, fun t ht => by
        have := (hget t ht).choose_spec
        simp only [dif_pos ht]
        exact this⟩
    refine ⟨(List.range k).map f, by simp, fun v hv => ?_, ⟨by simp [hk x hxd], fun t a ha => ?_⟩, fun t ht => by rw [(hf t ht).1]; simp [ht]⟩
    · obtain ⟨t, ht, rfl⟩ := List.mem_map.1 hv
      have ht := List.mem_range.1 ht
      have ha := List.getElem?_eq_getElem (l := av x) (i := t) (by rw [hk x hxd]; exact ht)
      refine ((hf t ht).2 _ ha).one ?_
      have := h1 x hxd
      unfold oneL at this
      exact List.all_eq_true.1 this _ (List.getElem_mem _)
    · have ht : t < k := by rw [← hk x hxd]; exact (List.getElem?_eq_some_iff.1 ha).1
      refine ⟨f t, by simp [ht], ((hf t ht).2 a ha).plain (plainL_get (hp x hxd) ha)⟩
  have helL : ∀ i : Nat, i < d.length → ∃ z : El k av O w, d[i]? = some z.1.1 ∧ ∀ t, t < k → arr[st + (i * k + t)]? = z.1.2[t]? := fun i hi => by
    obtain ⟨l, a1, a2, a3, a4⟩ := hel i d[i] (List.getElem?_eq_getElem hi)
    exact ⟨⟨(d[i], l), a1, a2, a3⟩, List.getElem?_eq_getElem hi, a4⟩
  have z0 : El k av O w := (helL 0 (by omega)).choose
  haveI : Inhabited (El k av O w) := ⟨z0⟩
  obtain ⟨zf, hzf⟩ : ∃ zf : Nat → El k av O w, ∀ i, i < d.length → d[i]? = some (zf i).1.1 ∧ ∀ t, t < k → arr[st + (i * k + t)]? = (zf i).1.2[t]? :=
    ⟨fun i => if hi : i < d.length then (helL i hi).choose else z0, fun i hi => by
      have := (helL i hi).choose_spec
      simp only [dif_pos hi]
      exact this⟩
  let D : Array (El k av O w) := ((List.range d.length).map zf).toArray
  have hDs : D.size = d.length := by simp [D]
  have hDl : D.toList.map (fun z => z.1.1) = d := by
    refine List.ext_getElem? fun i => ?_
    rcases Nat.lt_or_ge i d.length with hi | hi
    · rw [(hzf i hi).1]
      simp [D, hi]
    · rw [List.getElem?_eq_none hi, List.getElem?_eq_none (by simpa [D] using hi)]
  have hDg : ∀ i, i < d.length → D[i]! = zf i := fun i hi => by simp [D, hi]
  let enc : El k av O w → List Value := fun z => z.1.2
  have hgetF : ∀ t, t < d.length * k → arr[st + t]? = some (Sort.flatK enc k D)[t]! := fun t ht => by
    have hk0 : 0 < k := Nat.pos_of_ne_zero fun h => by rw [h] at ht; simp at ht
    have h3 : t / k < d.length := Nat.div_lt_of_lt_mul (by rw [Nat.mul_comm]; exact ht)
    have h4 : t % k < k := Nat.mod_lt _ hk0
    rw [Sort.get_flatK enc k D t (by rw [hDs]; exact ht), hDg _ h3]
    have h5 := (hzf _ h3).2 _ h4
    rw [show t / k * k + t % k = t by rw [Nat.mul_comm]; exact Nat.div_add_mod t k] at h5
    rw [h5, List.getElem?_eq_getElem (by rw [(zf (t / k)).2.1]; exact h4)]
    rw [getElem!_pos _ _ (by rw [(zf (t / k)).2.1]; exact h4)]
  have hH : Sort.HoldsK enc k w b (st + 0) D := fun j hj => by
    have hj' : j < d.length * k := by simpa [hDs] using hj
    have h5 := hgetF j hj'
    refine ⟨?_, by simp [World.frozen?, hb]⟩
    simp only [World.cell?, hb, Option.isSome_none, Bool.false_eq_true, if_false, Nat.add_zero, id]
    exact h5
  have hcl : ∀ x : El k av O w, (enc x).length = k := fun x => x.2.1
  have hone : ∀ x : El k av O w, ∀ v ∈ enc x, v.oneCell' = true := fun x => x.2.2.1
  have hSWO : Sort.SWO (Proofs.ltOf fun x y : El k av O w => cf x.1.1 y.1.1) := ⟨fun x => hO.irrefl _, fun x y z => hO.trans _ _ _, fun x y z => hO.ntrans _ _ _⟩
  have hmono : ∀ (m : Nat) (os : Array Obj) (dk : Array (El k av O w)), dk.size = D.size → Tr O w O (Proofs.sortWorldK enc k w b (st + 0) m dk os) := fun m os dk hdk => by
    unfold Proofs.sortWorldK Sort.putRowK
    have hb' : (Sort.ahead w m).heap[b]? = some (Obj.cells arr e (0, 0)) := hb
    rw [putRow_set hb']
    exact ((Tr.of_gr (gr_ahead w m)).trans (tr_setRow hOb hb' (by simp [Sort.putCells]))).trans (Tr.of_gr (gr_grow _ _))
  have hcmp' : Proofs.CmpLays P g cb enc k (fun x y : El k av O w => cf x.1.1 y.1.1) b (st + 0) D.size w := fun m os dk hdk x y => by
    have ht := hmono m os dk hdk
    exact hcmp x.1.1 y.1.1 x.1.2.toArray y.1.2.toArray cb O _ ⟨x.2.2.2.1, fun i a ha => (x.2.2.2.2 i a ha).imp fun u hu => ⟨hu.1, hu.2.mono ht⟩⟩ ⟨y.2.2.2.1, fun i a ha => (y.2.2.2.2 i a ha).imp fun u hu => ⟨hu.1, hu.2.mono ht⟩⟩ ⟨hcb.1, fun i a ha => (hcb.2 i a ha).imp fun u hu => ⟨hu.1, hu.2.mono ht⟩⟩ (fun b hb => Nat.lt_of_lt_of_le (hc.own.1 b hb) ht.size)
  have hcon := Proofs.AnyQ.slices_SortFunc L k aE zE enc hcl hone (fun x y : El k av O w => cf x.1.1 y.1.1) hSWO g cb b (st + 0) cap D w eg hcmp' hH hblk (by rw [hDs]; exact hd2)
  rw [hDs] at hcon
  refine hcon.mono fun en w' ⟨he, d', m, os, hpm, hst, hw'⟩ => ?_
  obtain ⟨hs', _, hpe⟩ := hpm
  have hperm : d'.toList.Perm D.toList := by
    have e1 : d'.extract 0 d.length = d' := by rw [show d.length = d'.size by omega]; simp
    have e2 : D.extract 0 d.length = D := by rw [show d.length = D.size by omega]; simp
    rwa [e1, e2] at hpe
  let ys : List γ := d'.toList.map fun z => z.1.1
  have hyp : ys.Perm d := by rw [← hDl]; exact hperm.map _
  have hyl : ys.length = d.length := hyp.length_eq
  have hg' : ∀ i, i < d.length → ys[i]? = some (d'[i]!).1.1 := fun i hi => by
    have : i < d'.size := by omega
    simp [ys, this]
  have hys : ∀ (i j : Nat) x y, i < j → ys[i]? = some x → ys[j]? = some y → 0 ≤ cf y x := fun i j x y hij hx hy => by
    have hj : j < d.length := by rw [← hyl]; exact (List.getElem?_eq_some_iff.1 hy).1
    have h6 := hst i j (Nat.zero_le _) hij hj
    rw [hg' i (by omega)] at hx
    rw [hg' j hj] at hy
    cases hx
    cases hy
    unfold Proofs.ltOf at h6
    have h7 := of_decide_eq_false h6
    exact Int.not_lt.1 h7
  have hyk : ∀ x ∈ ys, (av x).length = k := fun x hx => hk x (hyp.mem_iff.1 hx)
  have hw0 : (Sort.ahead w m).heap[b]? = some (Obj.cells arr e (0, 0)) := hb
  have hgr0 := gr_ahead w m
  obtain ⟨q1, q2, q3⟩ := hc_write (hc.gr hgr0) (k := r) (c' := ys.flatMap av) hr hβ (new := Sort.putCells id (st + 0) (Sort.flatK enc k d') arr) hw0 (by simp [Sort.putCells])
    (by rw [flat_len hyk, hyl]; simpa [Sort.putCells] using hsz) fun j x hj => by
      have hj' : j < d.length * k := by rw [← hyl, ← flat_len hyk]; exact (List.getElem?_eq_some_iff.1 hj).1
      have hk0 : 0 < k := Nat.pos_of_ne_zero fun h => by rw [h] at hj'; simp at hj'
      have h3 : j / k < d.length := Nat.div_lt_of_lt_mul (by rw [Nat.mul_comm]; exact hj')
      have h4 : j % k < k := Nat.mod_lt _ hk0
      have hfl : (Sort.flatK enc k d')[j]! = (d'[j / k]!).1.2[j % k]! := Sort.get_flatK enc k d' j (by rw [hs', hDs]; exact hj')
      rw [show j = j / k * k + j % k by rw [Nat.mul_comm]; exact (Nat.div_add_mod j k).symm, flat_get hyk _ _ h4, hg' _ h3, Option.bind_some] at hj
      obtain ⟨u, hu, hR⟩ := (d'[j / k]!).2.2.2.2 _ _ hj
      refine ⟨u, ?_, .pl _ _ (hR.mono (Tr.of_gr hgr0))⟩
      have hlt : st + j < arr.size := by omega
      have hcond : st ≤ st + j ∧ st + j < st + (Sort.flatK enc k d').size := ⟨by omega, by rw [Sort.size_flatK, hs', hDs]; omega⟩
      simp only [Sort.putCells, Array.getElem?_mapIdx, Array.getElem?_eq_getElem hlt, Option.map_some, Nat.add_zero, if_pos hcond, id, Nat.add_sub_cancel_left, hfl]
      have hu2 : (d'[j / k]!).1.2[j % k]? = some u := by simpa using hu
      rw [List.getElem!_eq_getElem?_getD, hu2]
      rfl
  have hww : Proofs.sortWorldK enc k w b (st + 0) m d' os = Sort.grow ((Sort.ahead w m).setRow b (Sort.putCells id (st + 0) (Sort.flatK enc k d') arr)) os := by
    unfold Proofs.sortWorldK Sort.putRowK
    rw [putRow_set hw0]
  rw [hww] at hw'
  subst hw'
  have hgr1 := gr_grow ((Sort.ahead w m).setRow b (Sort.putCells id (st + 0) (Sort.flatK enc k d') arr)) os
  have hBk : Bk gh.B0 ((Sort.ahead w m).setRow b (Sort.putCells id (st + 0) (Sort.flatK enc k d') arr)) := (hB.gr hgr0.size).gr q2.size
  refine ⟨.tuple #[], .tu [], _, nx, β, O, he, hK ys hyp hys, q1.gr hgr1, ((Pr.of_gr hgr0 hB).trans q3).trans (Pr.of_gr hgr1 hBk), .pl _ _ (.tu [] #[] (fun _ => default) rfl (fun i c h => by simp at h) (fun i c h => by simp at h)), ((Tr.of_gr hgr0).trans q2).trans (Tr.of_gr hgr1), fun _ _ h => h⟩
theorem m_sortI {P : Program} {ρ : Shelf.Ren} (L : Proofs.SlLaysF.n6 P ρ) {γ : Type} [Inhabited γ] (hcan : Callable P (ρ.f 6)) (enc : γ → Int) (cf : γ → γ → Int) (hO : Sort.SWO (Proofs.ltOf cf)) (g : Nat) (eg : Callable P g) (caps : List AV) (hcp : plainL caps = true)
    (hcmp : ∀ x y : γ, @Pure drS P g ([iv (enc x), iv (enc y)] ++ caps) (iv (cf x y))) (H : Hp) (nx r : Nat) (d : List γ) (hd : 1 ≤ d.length) (hd2 : d.length < 4611686018427387904) (hr : H r = some (ints (d.map enc)))
    (K : AV → Hp → Nat → Prop) (hK : ∀ ys : List γ, ys.Perm d → (∀ (i j : Nat) x y, i < j → ys[i]? = some x → ys[j]? = some y → 0 ≤ cf y x) → K (.tu []) (hset H r (some (ints (ys.map enc)))) nx) :
    CallM P (ρ.f 6) H nx [.ls r 0 1 d.length, .fn (.func g) [] caps] K := by
  refine ⟨hcan, fun gh β O w vs hc hB hv => ?_⟩
  obtain ⟨u0, hu0, hr0⟩ := hv.2 0 _ rfl
  obtain ⟨u1, hu1, hr1⟩ := hv.2 1 _ rfl
  obtain ⟨us, cb, rfl, hus, hvs, _, hcb⟩ := hr1.fn_inv
  have hus0 : us = #[] := Array.eq_empty_of_size_eq_zero (by simpa using hus)
  subst hus0
  have hcb : Rps O w caps cb := ⟨hvs, fun i a ha => (hcb i a ha).imp fun u hu => ⟨hu.1, hu.2.plain (plainL_get hcp ha)⟩⟩
  rcases hr0.ls_inv with ⟨_, h0, _⟩ | ⟨b, st, cap, hβ, hcap, rfl, _⟩
  · omega
  have hvs2 : vs = #[Value.slice (some ⟨b, st + 0, none⟩) d.length cap, Value.func (.func g) #[] cb] := by
    refine Array.ext_getElem? fun i => ?_
    match i with
    | 0 => simpa using hu0
    | 1 => simpa using hu1
    | i + 2 =>
      have : vs.size = 2 := hv.1
      rw [Array.getElem?_eq_none (by omega), Array.getElem?_eq_none (by simp)]
  subst hvs2
  clear hu0 hu1
  rcases hc.row r _ hr with ⟨h2, _⟩ | ⟨b', st', h2, hOb, hBb, hrow⟩
  · rw [hβ] at h2; cases h2
  rw [hβ] at h2
  cases h2
  have hblk := hrow.lt
  obtain ⟨arr, e, hb, hsz, hcell⟩ := hrow
  rw [ints_length, List.length_map] at hsz
  let en : γ → Value := fun x => .int .i64 (enc x)
  let D : Array γ := d.toArray
  have hDs : D.size = d.length := by simp [D]
  have hDg : ∀ i (hi : i < d.length), D[i]! = d[i] := fun i hi => by simp [D, hi]
  have hH : Sort.Holds en w b (st + 0) D := fun j hj => by
    have hj' : j < d.length := by simpa [hDs] using hj
    obtain ⟨u, hu, hR⟩ := hcell j (iv (enc d[j])) (by simp [ints, hj'])
    have := hR.v_inv
    subst this
    refine ⟨?_, by simp [World.frozen?, hb]⟩
    simp only [World.cell?, hb, Option.isSome_none, Bool.false_eq_true, if_false, Nat.add_zero]
    rw [hDg j hj']
    exact hu
  have hone : Proofs.OneCell en := fun x => rfl
  have hmono : ∀ (m : Nat) (os : Array Obj) (dk : Array γ), dk.size = D.size → Tr O w O (Proofs.sortWorld en w b (st + 0) m dk os) := fun m os dk hdk => by
    unfold Proofs.sortWorld
    have hb' : (Sort.ahead w m).heap[b]? = some (Obj.cells arr e (0, 0)) := hb
    rw [putRow_setG en hb']
    exact ((Tr.of_gr (gr_ahead w m)).trans (tr_setRow hOb hb' (by simp [Sort.putCells]))).trans (Tr.of_gr (gr_grow _ _))
  have hcmp' : Proofs.CmpLays1 P g cb en cf b (st + 0) D.size w := fun m os dk hdk x y => by
    have ht := hmono m os dk hdk
    refine (@Pure.run drS _ _ _ _ (hcmp x y) O _ _ (rps_app (us := #[en x, en y]) ⟨rfl, fun i a ha => ?_⟩ ⟨hcb.1, fun i a ha => (hcb.2 i a ha).imp fun u hu => ⟨hu.1, hu.2.mono ht⟩⟩) ⟨fun b hb => Nat.lt_of_lt_of_le (hc.own.1 b hb) ht.size, True.intro⟩).mono fun e w' ⟨u, he, hg, hr⟩ => ?_
    · match i with
      | 0 => simp only [List.getElem?_cons_zero, Option.some.injEq] at ha; subst ha; exact ⟨_, rfl, .v _⟩
      | 1 => simp only [List.getElem?_cons_succ, List.getElem?_cons_zero, Option.some.injEq] at ha; subst ha; exact ⟨_, rfl, .v _⟩
      | i + 2 => simp at ha
    · obtain rfl := hr.v_inv
      exact ⟨he, grow_of_gr hg⟩
  have hcon := Proofs.Any.slices_SortFunc L en hone cf hO g cb b (st + 0) cap D w eg hcmp' hH hblk (by rw [hDs]; exact hd2)
  rw [hDs] at hcon
  refine hcon.mono fun en' w' ⟨he, d', m, os, hpm, hst, hw'⟩ => ?_
  obtain ⟨hs', _, hpe⟩ := hpm
  have hperm : d'.toList.Perm D.toList := by
    have e1 : d'.extract 0 d.length = d' := by rw [show d.length = d'.size by omega]; simp
    have e2 : D.extract 0 d.length = D := by rw [show d.length = D.size by omega]; simp
    rwa [e1, e2] at hpe
  have hyp : d'.toList.Perm d := by simpa [D] using hperm
  have hyl : d'.toList.length = d.length := hyp.length_eq
  have hg' : ∀ i, i < d.length → d'.toList[i]? = some (d'[i]!) := fun i hi => by
    have : i < d'.size := by omega
    simp [this]
  have hys : ∀ (i j : Nat) x y, i < j → d'.toList[i]? = some x → d'.toList[j]? = some y → 0 ≤ cf y x := fun i j x y hij hx hy => by
    have hj : j < d.length := by rw [← hyl]; exact (List.getElem?_eq_some_iff.1 hy).1
    have h6 := hst i j (Nat.zero_le _) hij hj
    rw [hg' i (by omega)] at hx
    rw [hg' j hj] at hy
    cases hx
    cases hy
    unfold Proofs.ltOf at h6
    exact Int.not_lt.1 (of_decide_eq_false h6)
  have hw0 : (Sort.ahead w m).heap[b]? = some (Obj.cells arr e (0, 0)) := hb
  have hgr0 := gr_ahead w m
  obtain ⟨q1, q2, q3⟩ := hc_write (hc.gr hgr0) (k := r) (c' := ints (d'.toList.map enc)) hr hβ (new := Sort.putCells en (st + 0) d' arr) hw0 (by simp [Sort.putCells])
    (by rw [ints_length, List.length_map, hyl]; simpa [Sort.putCells] using hsz) fun j x hj => by
      have hj' : j < d.length := by
        have := (List.getElem?_eq_some_iff.1 hj).1
        rw [ints_length, List.length_map] at this
        omega
      have hlt : st + j < arr.size := by omega
      have hcond : st ≤ st + j ∧ st + j < st + d'.size := ⟨by omega, by omega⟩
      refine ⟨en d'[j]!, ?_, ?_⟩
      · simp only [Sort.putCells, Array.getElem?_mapIdx, Array.getElem?_eq_getElem hlt, Option.map_some, Nat.add_zero, if_pos hcond, Nat.add_sub_cancel_left]
      · have : x = iv (enc d'[j]!) := by
          have h7 := hg' j hj'
          simp only [ints, List.getElem?_map, h7, Option.map_some, Option.some.injEq] at hj
          exact hj.symm
        subst this
        exact .vv _
  have hww : Proofs.sortWorld en w b (st + 0) m d' os = Sort.grow ((Sort.ahead w m).setRow b (Sort.putCells en (st + 0) d' arr)) os := by
    unfold Proofs.sortWorld
    rw [putRow_setG en hw0]
  rw [hww] at hw'
  subst hw'
  have hgr1 := gr_grow ((Sort.ahead w m).setRow b (Sort.putCells en (st + 0) d' arr)) os
  have hBk : Bk gh.B0 ((Sort.ahead w m).setRow b (Sort.putCells en (st + 0) d' arr)) := (hB.gr hgr0.size).gr q2.size
  refine ⟨.tuple #[], .tu [], _, nx, β, O, he, hK _ hyp hys, q1.gr hgr1, ((Pr.of_gr hgr0 hB).trans q3).trans (Pr.of_gr hgr1 hBk), .pl _ _ (.tu [] #[] (fun _ => default) rfl (fun i c h => by simp at h) (fun i c h => by simp at h)), ((Tr.of_gr hgr0).trans q2).trans (Tr.of_gr hgr1), fun _ _ h => h⟩
end Go.Ab
namespace Go.Proofs
open Go.Shelf
def Tryz.sortLag_ren : Go.Shelf.Ren := ⟨fun | 6 => 88 | 15 => 141 | 14 => 140 | 28 => 172 | 29 => 173 | 20 => 164 | 21 => 165 | 22 => 166 | 23 => 167 | 24 => 168 | 25 => 169 | 26 => 170 | 27 => 171 | 46 => 201 | 47 => 202 | 48 => 203 | 49 => 204 | 50 => 205 | 57 => 229 | n => n, fun | 22 => 143 | 24 => 27 | 25 => 146 | 3 => 3 | 39 => 194 | 0 => 0 | 53 => 226 | 55 => 228 | 4 => 4 | 46 => 220 | 45 => 219 | 50 => 174 | 5 => 5 | 9 => 9 | 66 => 244 | 70 => 208 | 76 => 272 | 77 => 77 | n => n, fun | n => n⟩
theorem Tryz.sortLag : Go.Proofs.SlLaysF0.n6 Tryz.prog Tryz.sortLag_ren := {
  mixed := by kernel_rfl
  f6 := ⟨Tryz.f88.name, by decide, Tryz.func88.trans (congrArg some (by kernel_rfl))⟩
  f14 := ⟨Tryz.f140.name, by decide, Tryz.func140.trans (congrArg some (by kernel_rfl))⟩
  f15 := Tryz.func141.trans (congrArg some (by kernel_rfl))
  f20 := ⟨Tryz.f164.name, by decide, Tryz.func164.trans (congrArg some (by kernel_rfl))⟩
  f21 := ⟨Tryz.f165.name, by decide, Tryz.func165.trans (congrArg some (by kernel_rfl))⟩
  f22 := ⟨Tryz.f166.name, by decide, Tryz.func166.trans (congrArg some (by kernel_rfl))⟩
  f23 := ⟨Tryz.f167.name, by decide, Tryz.func167.trans (congrArg some (by kernel_rfl))⟩
  f24 := ⟨Tryz.f168.name, by decide, Tryz.func168.trans (congrArg some (by kernel_rfl))⟩
  f25 := ⟨Tryz.f169.name, by decide, Tryz.func169.trans (congrArg some (by kernel_rfl))⟩
  f26 := ⟨Tryz.f170.name, by decide, Tryz.func170.trans (congrArg some (by kernel_rfl))⟩
  f27 := ⟨Tryz.f171.name, by decide, Tryz.func171.trans (congrArg some (by kernel_rfl))⟩
  f28 := Tryz.func172.trans (congrArg some (by kernel_rfl))
  f29 := Tryz.func173.trans (congrArg some (by kernel_rfl))
  f46 := ⟨Tryz.f201.name, by decide, Tryz.func201.trans (congrArg some (by kernel_rfl))⟩
  f47 := Tryz.func202.trans (congrArg some (by kernel_rfl))
  f48 := Tryz.func203.trans (congrArg some (by kernel_rfl))
  f49 := ⟨Tryz.f204.name, by decide, Tryz.func204.trans (congrArg some (by kernel_rfl))⟩
  f50 := ⟨Tryz.f205.name, by decide, Tryz.func205.trans (congrArg some (by kernel_rfl))⟩
  f57 := ⟨Tryz.f229.name, by decide, Tryz.func229.trans (congrArg some (by kernel_rfl))⟩
  t0 := Tryz.underlying0
  a0 := Tryz.isAgg0
  z0 := Tryz.sizeOf0
  v0 := Tryz.zeroValue0
  t3 := Tryz.underlying3
  a3 := Tryz.isAgg3
  z3 := Tryz.sizeOf3
  v3 := Tryz.zeroValue3
  t4 := Tryz.underlying4
  a4 := Tryz.isAgg4
  z4 := Tryz.sizeOf4
  v4 := Tryz.zeroValue4
  t5 := Tryz.underlying5
  a5 := Tryz.isAgg5
  z5 := Tryz.sizeOf5
  v5 := Tryz.zeroValue5
  t9 := Tryz.underlying9
  a9 := Tryz.isAgg9
  z9 := Tryz.sizeOf9
  v9 := Tryz.zeroValue9
  t22 := Tryz.underlying143
  a22 := Tryz.isAgg143
  z22 := Tryz.sizeOf143
  v22 := Tryz.zeroValue143
  t25 := Tryz.underlying146
  a25 := Tryz.isAgg146
  z25 := Tryz.sizeOf146
  v25 := Tryz.zeroValue146
  t39 := Tryz.underlying194
  a39 := Tryz.isAgg194
  z39 := Tryz.sizeOf194
  v39 := Tryz.zeroValue194
  t45 := Tryz.underlying219
  a45 := Tryz.isAgg219
  z45 := Tryz.sizeOf219
  v45 := Tryz.zeroValue219
  t46 := Tryz.underlying220
  a46 := Tryz.isAgg220
  z46 := Tryz.sizeOf220
  v46 := Tryz.zeroValue220
  t50 := Tryz.underlying174
  a50 := Tryz.isAgg174
  z50 := Tryz.sizeOf174
  v50 := Tryz.zeroValue174
  t53 := Tryz.underlying226
  a53 := Tryz.isAgg226
  z53 := Tryz.sizeOf226
  v53 := Tryz.zeroValue226
  t55 := Tryz.underlying228
  a55 := Tryz.isAgg228
  z55 := Tryz.sizeOf228
  v55 := Tryz.zeroValue228
  t66 := Tryz.underlying244
  a66 := Tryz.isAgg244
  z66 := Tryz.sizeOf244
  v66 := Tryz.zeroValue244
  t70 := Tryz.underlying208
  a70 := Tryz.isAgg208
  z70 := Tryz.sizeOf208
  v70 := Tryz.zeroValue208
  t76 := Tryz.underlying272
  a76 := Tryz.isAgg272
  z76 := Tryz.sizeOf272
  v76 := Tryz.zeroValue272
  t77 := Tryz.underlying77
  a77 := Tryz.isAgg77
  z77 := Tryz.sizeOf77
  v77 := Tryz.zeroValue77 }
def Tryz.sortInt_ren : Go.Shelf.Ren := ⟨fun | 6 => 97 | 15 => 141 | 14 => 146 | 28 => 172 | 29 => 173 | 20 => 175 | 21 => 176 | 22 => 177 | 23 => 178 | 24 => 179 | 25 => 180 | 26 => 181 | 27 => 182 | 46 => 206 | 47 => 202 | 48 => 203 | 49 => 207 | 50 => 208 | 57 => 230 | n => n, fun | 22 => 22 | 24 => 3 | 25 => 132 | 3 => 3 | 39 => 194 | 0 => 0 | 53 => 226 | 55 => 228 | 4 => 4 | 46 => 220 | 45 => 219 | 50 => 174 | 5 => 5 | 9 => 9 | 66 => 244 | 70 => 208 | 76 => 272 | 77 => 77 | n => n, fun | n => n⟩
theorem Tryz.sortInt : Go.Proofs.SlLaysF.n6 Tryz.prog Tryz.sortInt_ren := {
  mixed := by kernel_rfl
  f6 := ⟨Tryz.f97.name, by decide, Tryz.func97.trans (congrArg some (by kernel_rfl))⟩
  f14 := ⟨Tryz.f146.name, by decide, Tryz.func146.trans (congrArg some (by kernel_rfl))⟩
  f15 := Tryz.func141.trans (congrArg some (by kernel_rfl))
  f20 := ⟨Tryz.f175.name, by decide, Tryz.func175.trans (congrArg some (by kernel_rfl))⟩
  f21 := ⟨Tryz.f176.name, by decide, Tryz.func176.trans (congrArg some (by kernel_rfl))⟩
  f22 := ⟨Tryz.f177.name, by decide, Tryz.func177.trans (congrArg some (by kernel_rfl))⟩
  f23 := ⟨Tryz.f178.name, by decide, Tryz.func178.trans (congrArg some (by kernel_rfl))⟩
  f24 := ⟨Tryz.f179.name, by decide, Tryz.func179.trans (congrArg some (by kernel_rfl))⟩
  f25 := ⟨Tryz.f180.name, by decide, Tryz.func180.trans (congrArg some (by kernel_rfl))⟩
  f26 := ⟨Tryz.f181.name, by decide, Tryz.func181.trans (congrArg some (by kernel_rfl))⟩
  f27 := ⟨Tryz.f182.name, by decide, Tryz.func182.trans (congrArg some (by kernel_rfl))⟩
  f28 := Tryz.func172.trans (congrArg some (by kernel_rfl))
  f29 := Tryz.func173.trans (congrArg some (by kernel_rfl))
  f46 := ⟨Tryz.f206.name, by decide, Tryz.func206.trans (congrArg some (by kernel_rfl))⟩
  f47 := Tryz.func202.trans (congrArg some (by kernel_rfl))
  f48 := Tryz.func203.trans (congrArg some (by kernel_rfl))
  f49 := ⟨Tryz.f207.name, by decide, Tryz.func207.trans (congrArg some (by kernel_rfl))⟩
  f50 := ⟨Tryz.f208.name, by decide, Tryz.func208.trans (congrArg some (by kernel_rfl))⟩
  f57 := ⟨Tryz.f230.name, by decide, Tryz.func230.trans (congrArg some (by kernel_rfl))⟩
  t0 := Tryz.underlying0
  a0 := Tryz.isAgg0
  z0 := Tryz.sizeOf0
  v0 := Tryz.zeroValue0
  t3 := Tryz.underlying3
  a3 := Tryz.isAgg3
  z3 := Tryz.sizeOf3
  v3 := Tryz.zeroValue3
  t4 := Tryz.underlying4
  a4 := Tryz.isAgg4
  z4 := Tryz.sizeOf4
  v4 := Tryz.zeroValue4
  t5 := Tryz.underlying5
  a5 := Tryz.isAgg5
  z5 := Tryz.sizeOf5
  v5 := Tryz.zeroValue5
  t9 := Tryz.underlying9
  a9 := Tryz.isAgg9
  z9 := Tryz.sizeOf9
  v9 := Tryz.zeroValue9
  t22 := Tryz.underlying22
  a22 := Tryz.isAgg22
  z22 := Tryz.sizeOf22
  v22 := Tryz.zeroValue22
  a24 := Tryz.isAgg3
  z24 := Tryz.sizeOf3
  t25 := Tryz.underlying132
  a25 := Tryz.isAgg132
  z25 := Tryz.sizeOf132
  v25 := Tryz.zeroValue132
  t39 := Tryz.underlying194
  a39 := Tryz.isAgg194
  z39 := Tryz.sizeOf194
  v39 := Tryz.zeroValue194
  t45 := Tryz.underlying219
  a45 := Tryz.isAgg219
  z45 := Tryz.sizeOf219
  v45 := Tryz.zeroValue219
  t46 := Tryz.underlying220
  a46 := Tryz.isAgg220
  z46 := Tryz.sizeOf220
  v46 := Tryz.zeroValue220
  t50 := Tryz.underlying174
  a50 := Tryz.isAgg174
  z50 := Tryz.sizeOf174
  v50 := Tryz.zeroValue174
  t53 := Tryz.underlying226
  a53 := Tryz.isAgg226
  z53 := Tryz.sizeOf226
  v53 := Tryz.zeroValue226
  t55 := Tryz.underlying228
  a55 := Tryz.isAgg228
  z55 := Tryz.sizeOf228
  v55 := Tryz.zeroValue228
  t66 := Tryz.underlying244
  a66 := Tryz.isAgg244
  z66 := Tryz.sizeOf244
  v66 := Tryz.zeroValue244
  t70 := Tryz.underlying208
  a70 := Tryz.isAgg208
  z70 := Tryz.sizeOf208
  v70 := Tryz.zeroValue208
  t76 := Tryz.underlying272
  a76 := Tryz.isAgg272
  z76 := Tryz.sizeOf272
  v76 := Tryz.zeroValue272
  t77 := Tryz.underlying77
  a77 := Tryz.isAgg77
  z77 := Tryz.sizeOf77
  v77 := Tryz.zeroValue77 }
def Tryz.sortTf_ren : Go.Shelf.Ren := ⟨fun | 6 => 118 | 15 => 141 | 14 => 152 | 28 => 172 | 29 => 173 | 20 => 184 | 21 => 185 | 22 => 186 | 23 => 187 | 24 => 188 | 25 => 189 | 26 => 190 | 27 => 191 | 46 => 210 | 47 => 202 | 48 => 203 | 49 => 211 | 50 => 212 | 57 => 240 | n => n, fun | 22 => 33 | 24 => 102 | 25 => 173 | 3 => 3 | 39 => 194 | 0 => 0 | 53 => 226 | 55 => 228 | 4 => 4 | 46 => 220 | 45 => 219 | 50 => 174 | 5 => 5 | 9 => 9 | 66 => 244 | 70 => 208 | 76 => 272 | 77 => 77 | n => n, fun | n => n⟩
theorem Tryz.sortTf : Go.Proofs.SlLaysF0.n6 Tryz.prog Tryz.sortTf_ren := {
  mixed := by kernel_rfl
  f6 := ⟨Tryz.f118.name, by decide, Tryz.func118.trans (congrArg some (by kernel_rfl))⟩
  f14 := ⟨Tryz.f152.name, by decide, Tryz.func152.trans (congrArg some (by kernel_rfl))⟩
  f15 := Tryz.func141.trans (congrArg some (by kernel_rfl))
  f20 := ⟨Tryz.f184.name, by decide, Tryz.func184.trans (congrArg some (by kernel_rfl))⟩
  f21 := ⟨Tryz.f185.name, by decide, Tryz.func185.trans (congrArg some (by kernel_rfl))⟩
  f22 := ⟨Tryz.f186.name, by decide, Tryz.func186.trans (congrArg some (by kernel_rfl))⟩
  f23 := ⟨Tryz.f187.name, by decide, Tryz.func187.trans (congrArg some (by kernel_rfl))⟩
  f24 := ⟨Tryz.f188.name, by decide, Tryz.func188.trans (congrArg some (by kernel_rfl))⟩
  f25 := ⟨Tryz.f189.name, by decide, Tryz.func189.trans (congrArg some (by kernel_rfl))⟩
  f26 := ⟨Tryz.f190.name, by decide, Tryz.func190.trans (congrArg some (by kernel_rfl))⟩
  f27 := ⟨Tryz.f191.name, by decide, Tryz.func191.trans (congrArg some (by kernel_rfl))⟩
  f28 := Tryz.func172.trans (congrArg some (by kernel_rfl))
  f29 := Tryz.func173.trans (congrArg some (by kernel_rfl))
  f46 := ⟨Tryz.f210.name, by decide, Tryz.func210.trans (congrArg some (by kernel_rfl))⟩
  f47 := Tryz.func202.trans (congrArg some (by kernel_rfl))
  f48 := Tryz.func203.trans (congrArg some (by kernel_rfl))
  f49 := ⟨Tryz.f211.name, by decide, Tryz.func211.trans (congrArg some (by kernel_rfl))⟩
  f50 := ⟨Tryz.f212.name, by decide, Tryz.func212.trans (congrArg some (by kernel_rfl))⟩
  f57 := ⟨Tryz.f240.name, by decide, Tryz.func240.trans (congrArg some (by kernel_rfl))⟩
  t0 := Tryz.underlying0
  a0 := Tryz.isAgg0
  z0 := Tryz.sizeOf0
  v0 := Tryz.zeroValue0
  t3 := Tryz.underlying3
  a3 := Tryz.isAgg3
  z3 := Tryz.sizeOf3
  v3 := Tryz.zeroValue3
  t4 := Tryz.underlying4
  a4 := Tryz.isAgg4
  z4 := Tryz.sizeOf4
  v4 := Tryz.zeroValue4
  t5 := Tryz.underlying5
  a5 := Tryz.isAgg5
  z5 := Tryz.sizeOf5
  v5 := Tryz.zeroValue5
  t9 := Tryz.underlying9
  a9 := Tryz.isAgg9
  z9 := Tryz.sizeOf9
  v9 := Tryz.zeroValue9
  t22 := Tryz.underlying33
  a22 := Tryz.isAgg33
  z22 := Tryz.sizeOf33
  v22 := Tryz.zeroValue33
  t25 := Tryz.underlying173
  a25 := Tryz.isAgg173
  z25 := Tryz.sizeOf173
  v25 := Tryz.zeroValue173
  t39 := Tryz.underlying194
  a39 := Tryz.isAgg194
  z39 := Tryz.sizeOf194
  v39 := Tryz.zeroValue194
  t45 := Tryz.underlying219
  a45 := Tryz.isAgg219
  z45 := Tryz.sizeOf219
  v45 := Tryz.zeroValue219
  t46 := Tryz.underlying220
  a46 := Tryz.isAgg220
  z46 := Tryz.sizeOf220
  v46 := Tryz.zeroValue220
  t50 := Tryz.underlying174
  a50 := Tryz.isAgg174
  z50 := Tryz.sizeOf174
  v50 := Tryz.zeroValue174
  t53 := Tryz.underlying226
  a53 := Tryz.isAgg226
  z53 := Tryz.sizeOf226
  v53 := Tryz.zeroValue226
  t55 := Tryz.underlying228
  a55 := Tryz.isAgg228
  z55 := Tryz.sizeOf228
  v55 := Tryz.zeroValue228
  t66 := Tryz.underlying244
  a66 := Tryz.isAgg244
  z66 := Tryz.sizeOf244
  v66 := Tryz.zeroValue244
  t70 := Tryz.underlying208
  a70 := Tryz.isAgg208
  z70 := Tryz.sizeOf208
  v70 := Tryz.zeroValue208
  t76 := Tryz.underlying272
  a76 := Tryz.isAgg272
  z76 := Tryz.sizeOf272
  v76 := Tryz.zeroValue272
  t77 := Tryz.underlying77
  a77 := Tryz.isAgg77
  z77 := Tryz.sizeOf77
  v77 := Tryz.zeroValue77 }
end Go.Proofs
