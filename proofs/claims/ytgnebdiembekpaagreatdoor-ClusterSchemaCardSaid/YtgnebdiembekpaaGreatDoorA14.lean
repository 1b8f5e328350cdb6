import Derived.Test.YtgnebdiembekpaaGreatDoorA13
/- Part of the proof: the abstract evaluator, its soundness, its runs: AeOp18, AeOp19, AeOp20, AeOp21, AeOp22, AeOp23, AeOp24, AeRun1 -/
set_option linter.unusedSectionVars false
set_option linter.unusedSimpArgs false
set_option linter.unusedVariables false
set_option linter.unnecessarySimpa false
namespace Go.AE
variable {P : Program} {σ : Sg} {A : AW} {W : World} {T : TM}
theorem nexts_ok (hW : WRel P σ A W) {z : Arg} {x : Value} {v : AV} {A' : AW} {ty : TypeId} (hx : VRel σ (z.ev T) x) (h : iop T A (.nexts z) = some (v, A')) : ResV P σ A W ((Instr.next x true ty).run P W) v A' := by
  simp only [iop] at h
  split at h
  · rename_i a heq
    rw [heq] at hx
    simp only [VRel] at hx
    obtain ⟨e, he, rfl⟩ := hx
    split at h
    · rename_i s pos ho
      obtain ⟨f, ob, hf, hb, h0, bs, rfl, hs⟩ := hW.obj a _ ho
      rw [he] at hf; cases hf
      rw [h0]
      have hg : (getObj e.blk).run P W = .ok (.stringIter bs pos) W := getObj_other hb (by simp)
      split at h
      · cases h
        have hle : bs.size ≤ pos := by
          have := congrArg List.length hs
          simp only [List.length_map, List.length_drop, List.length_nil] at this
          have h2 : bs.data.toList.length = bs.size := by rw [Array.length_toList]; rfl
          omega
        refine ⟨σ, .tuple #[.bool false], W, ?_, by simp only [VRel]; exact ⟨_, rfl, VRels.cons (by simp [VRel]) VRels.nil⟩, .refl hW⟩
        simp only [Instr.next, Nat.add_zero, Sem.run_bind, hg, Result.andThen_ok]
        rw [if_neg (by omega)]
        rfl
      · rename_i b rest
        split at h
        · rename_i hlt
          have hlt : b < 128 := Nat.blt_eq ▸ hlt
          split at h
          · rename_i A1 hp
            cases h
            have h2 : bs.data.toList.length = bs.size := by rw [Array.length_toList]; rfl
            have hpos : pos < bs.size := by
              have := congrArg List.length hs
              simp only [List.length_map, List.length_drop, List.length_cons] at this
              omega
            have hd : bs.data.toList.drop pos = bs.data.toList[pos] :: bs.data.toList.drop (pos + 1) := List.drop_eq_getElem_cons (by omega)
            rw [hd, List.map_cons] at hs
            injection hs with hs1 hs2
            have hget : (bs.get! pos).toNat = b := by
              rw [← hs1]
              congr 1
              obtain ⟨d⟩ := bs
              simp only [ByteArray.get!]
              rw [getElem!_pos d pos hpos]
              simp
            have hdec : Utf8.decode bs pos = (b, 1) := by
              simp only [Utf8.decode, Nat.add_zero, hget]
              rw [if_pos hlt]
            refine ⟨σ, .tuple #[.bool true, goInt pos, .int .i32 b], _, ?_, ?_, Step.put hW hp he (.stringIter bs (pos + 1)) W.drawn ⟨h0, bs, rfl, hs2⟩⟩
            · simp only [Instr.next, Nat.add_zero, Sem.run_bind, hg, Result.andThen_ok]
              rw [if_pos hpos, hdec]
              simp only [Sem.run_bind, setObj_other (.stringIter bs (pos + 1)) hb (by simp), Result.andThen_ok, Sem.run_pure]
            · simp only [VRel]
              exact ⟨_, rfl, VRels.cons (by simp [VRel]) (VRels.cons (by simp [VRel, goInt]) (VRels.cons (by simp [VRel]) VRels.nil))⟩
          · cases h
        · cases h
    · cases h
  · cases h
theorem unseen_rel (seen : List Nat) : ∀ {es : List (AV × AV × Nat)} {ces : List MapEntry}, ESRel σ es ces → ESRel σ (unseen seen es) (ces.filter fun e => !seen.contains e.born)
  | [], _, h => by simp only [ESRel] at h; subst h; simp [unseen, ESRel]
  | (k, v, b) :: es, _, h => by
    simp only [ESRel] at h
    obtain ⟨c, rest, rfl, h1, h2, h3, h4⟩ := h
    simp only [unseen, List.filter_cons, h3]
    split
    · rename_i hc; simp only [hc, Bool.not_true, Bool.false_eq_true, if_false]; exact unseen_rel seen h4
    · rename_i hc
      have hc : seen.contains b = false := by simpa using hc
      simp only [hc, Bool.not_false, if_true, ESRel]
      exact ⟨c, _, rfl, h1, h2, h3, unseen_rel seen h4⟩
/-- what 'next' on a map's iterator comes to where the map has not turned -/
theorem next_run {W : World} {b mb clock : Nat} {ces : Array MapEntry} {seen : Array Nat} {ty : TypeId} (hb : W.heap[b]? = some (.mapIter (some mb) clock seen clock)) (hm : W.heap[mb]? = some (.map ces clock))
    (hborn : ∀ c, c ∈ ces.toList → c.born < clock) :
    (Instr.next (.pointer (some ⟨b, 0, none⟩)) false ty).run P W =
      (let left := ces.filter fun e => !seen.contains e.born
       let cand := (if left.isEmpty then #[none] else #[]) ++ left.map some
       ((choose (.mapNext cand.size)).run P W).andThen fun k w => match cand[k]? with
        | some (some e) => .ok (.tuple #[.bool true, e.key, e.val]) { w with heap := w.heap.setIfInBounds b (.mapIter (some mb) clock (seen.push e.born) clock) }
        | some none => .ok (.tuple #[.bool false]) w
        | none => .halt (.stuck "Next: no such candidate") w) := by
  have hg : (getObj b).run P W = .ok (.mapIter (some mb) clock seen clock) W := getObj_other hb (by simp)
  have hg2 := getObj_map (P := P) hm
  have hall : (!seen.isEmpty && !ces.isEmpty && ces.all (fun e => decide (e.born ≥ clock))) = false := by
    by_cases he : ces.isEmpty
    · simp [he]
    · have hne : ces.toList ≠ [] := by simpa [Array.isEmpty_iff] using he
      obtain ⟨c, l, hcl⟩ := List.exists_cons_of_ne_nil hne
      have hc := hborn c (by rw [hcl]; exact List.mem_cons_self ..)
      have : ces.all (fun e => decide (e.born ≥ clock)) = false := by
        rw [Array.all_eq_false']
        exact ⟨c, by rw [← Array.mem_toList_iff, hcl]; exact List.mem_cons_self .., by simp; omega⟩
      rw [this]; simp
  have hold : ∀ l : Array MapEntry, (∀ c, c ∈ l.toList → c.born < clock) → l.filter (fun e => decide (e.born < clock)) = l := by
    intro l hl
    apply Array.filter_eq_self.2
    intro c hc
    simpa using hl c (by simpa using hc)
  have hnew : ∀ l : Array MapEntry, (∀ c, c ∈ l.toList → c.born < clock) → l.filter (fun e => decide (e.born ≥ clock)) = #[] := by
    intro l hl
    apply Array.filter_eq_empty_iff.2
    intro c hc
    have := hl c (by simpa using hc)
    simp; omega
  have hsub : ∀ c, c ∈ (ces.filter fun e => !seen.contains e.born).toList → c.born < clock := by
    intro c hc
    apply hborn
    simp at hc
    simpa using hc.1
  simp only [Instr.next, Sem.run_bind, hg, hg2, Result.andThen_ok, hall]
  rw [hold _ hsub, hnew _ hsub]
  simp only [Bool.false_eq_true, if_false, Array.append_empty]
  generalize hC : ((if (ces.filter fun e => !seen.contains e.born).isEmpty = true then #[none] else #[]) ++ (ces.filter fun e => !seen.contains e.born).map some) = cand
  rw [Sem.run_bind]
  have hk : ∀ q w' k, (choose q).run P W = .ok k w' → w'.heap = W.heap := by
    intro q w' k h
    simp only [choose, Sem.run] at h
    split at h <;> (injection h with _ h2; rw [← h2])
  cases hch : (choose (.mapNext cand.size)).run P W with
  | halt x w => rfl
  | ok k w =>
    have hh := hk _ _ _ hch
    simp only [Result.andThen_ok]
    cases hc : cand[k]? with
    | none => rfl
    | some o =>
      cases o with
      | none => rfl
      | some e =>
        simp only [Sem.run_bind]
        rw [setObj_other (P := P) (W := w) (.mapIter (some mb) clock (seen.push e.born) clock) (by rw [hh]; exact hb) (by simp)]
        rfl
theorem ESRel.born : ∀ {es : List (AV × AV × Nat)} {ces : List MapEntry} {n : Nat}, ESRel σ es ces → (∀ x, x ∈ es → x.2.2 < n) → ∀ c, c ∈ ces → c.born < n
  | [], _, n, h, _, c, hc => by simp only [ESRel] at h; subst h; cases hc
  | (k, v, b) :: es, _, n, h, hl, c, hc => by
    simp only [ESRel] at h
    obtain ⟨c0, rest, rfl, h1, h2, h3, h4⟩ := h
    cases hc with
    | head => rw [h3]; exact hl (k, v, b) (List.mem_cons_self ..)
    | tail _ hc => exact ESRel.born h4 (fun x hx => hl x (List.mem_cons_of_mem _ hx)) c hc
theorem nextm_ok (hW : WRel P σ A W) {z : Arg} {x : Value} {v : AV} {A' : AW} {ty : TypeId} (hx : VRel σ (z.ev T) x) (h : iop T A (.nextm z) = some (v, A')) : ResV P σ A W ((Instr.next x false ty).run P W) v A' := by
  simp only [iop] at h
  split at h
  · rename_i a heq
    rw [heq] at hx
    simp only [VRel] at hx
    obtain ⟨e, he, rfl⟩ := hx
    split at h
    · rename_i ho
      cases h
      obtain ⟨f, ob, hf, hb, h0, x1, x2, x3, rfl⟩ := hW.obj a _ ho
      rw [he] at hf; cases hf
      rw [h0]
      have hg : (getObj e.blk).run P W = .ok (.mapIter none x1 x2 x3) W := getObj_other hb (by simp)
      refine ⟨σ, .tuple #[.bool false], W, ?_, by simp only [VRel]; exact ⟨_, rfl, VRels.cons (by simp [VRel]) VRels.nil⟩, .refl hW⟩
      simp only [Instr.next, Nat.add_zero, Sem.run_bind, hg, Result.andThen_ok]
      rfl
    · rename_i m since seen last ho
      obtain ⟨f, ob, hf, hb, h0, fm, hfm, rfl⟩ := hW.obj a _ ho
      rw [he] at hf; cases hf
      rw [h0]
      split at h
      · rename_i es clock ho2
        obtain ⟨fm', ob2, hfm', hb2, ces, rfl, hes, hborn⟩ := hW.obj m _ ho2
        rw [hfm] at hfm'; cases hfm'
        split at h
        · rename_i hc
          rw [Bool.and_eq_true] at hc
          have hc1 := Nat.eq_of_beq_eq_true hc.1
          have hc2 := Nat.eq_of_beq_eq_true hc.2
          subst hc1 hc2
          have hrun := next_run (P := P) (ty := ty) hb hb2 (hes.born hborn)
          have hu := unseen_rel seen hes
          have hcont : (ces.filter fun e => !seen.toArray.contains e.born).toList = ces.toList.filter fun e => !seen.contains e.born := by
            simp
          generalize hq : (ces.filter fun e => !seen.toArray.contains e.born) = left at hrun hcont
          rw [← hcont] at hu
          split at h
          · rename_i hs
            cases h
            rw [hs] at hu
            simp only [ESRel] at hu
            have hl : left = #[] := by simpa using hu
            subst hl
            refine ⟨σ, .tuple #[.bool false], W, ?_, by simp only [VRel]; exact ⟨_, rfl, VRels.cons (by simp [VRel]) VRels.nil⟩, .refl hW⟩
            rw [Nat.add_zero, hrun]
            simp [choose, Sem.run, Question.forced]
          · rename_i k v' b hs
            rw [hs] at hu
            simp only [ESRel] at hu
            obtain ⟨c, rest, hl, h1, h2, h3, h4⟩ := hu
            subst h4
            have hl : left = #[c] := by
              apply Array.ext'
              simpa using hl
            subst hl
            split at h
            · rename_i A1 hp
              cases h
              refine ⟨σ, .tuple #[.bool true, c.key, c.val], _, ?_, ?_, Step.put hW hp he (.mapIter (some fm.blk) last (seen.toArray.push c.born) last) W.drawn ⟨h0, fm, hfm, by rw [h3]; simp⟩⟩
              · rw [Nat.add_zero, hrun]
                simp [choose, Sem.run, Question.forced]
              · simp only [VRel]
                exact ⟨_, rfl, VRels.cons (by simp [VRel]) (VRels.cons h1 (VRels.cons h2 VRels.nil))⟩
            · cases h
          · cases h
        · cases h
      · cases h
    · cases h
  · cases h
theorem entry_ok (hW : WRel P σ A W) {z : Arg} {x : Value} {v : AV} {A' : AW} (hx : VRel σ (z.ev T) x) (h : iop T A (.entry z) = some (v, A')) : ResV P σ A W ((Instr.entry x).run P W) v A' := by
  simp only [iop] at h
  split at h
  · rename_i a heq
    rw [heq] at hx
    simp only [VRel] at hx
    obtain ⟨e, he, rfl⟩ := hx
    have key : ∀ {since last clock stamp : Nat} {m : Ix} {seen : Array Nat} {fm : Ent} {es : List (AV × AV × Nat)} {k w : AV}, e.sh = 0 → W.heap[e.blk]? = some (.mapIter (some fm.blk) since seen last) → σ m = some fm → seen.back? = some stamp →
        A.get m = some (.map es clock) → last = clock → findBorn stamp es = some (k, w) → ResV P σ A W ((Instr.entry (.pointer (some ⟨e.blk, e.sh + 0, none⟩))).run P W) (.tup [k, w]) A := by
      intro since last clock stamp m seen fm es k w h0 hb hfm hst ho2 hc hf
      subst hc
      obtain ⟨fm', ob2, hfm', hb2, ces, rfl, hes, hborn⟩ := hW.obj m _ ho2
      rw [hfm] at hfm'; cases hfm'
      rw [h0]
      have hg : (getObj e.blk).run P W = .ok (.mapIter (some fm.blk) since seen last) W := getObj_other hb (by simp)
      obtain ⟨c, hc1, hc2, hc3⟩ := findBorn_ok hes hf
      refine ⟨σ, .tuple #[c.key, c.val], W, ?_, ?_, .refl hW⟩
      · simp only [Instr.entry, Nat.add_zero, Sem.run_bind, hg, Result.andThen_ok, hst, getObj_map hb2]
        simp only [bne_self_eq_false, Bool.false_eq_true, if_false]
        have : ces.find? (fun x => x.born == stamp) = some c := by rw [← Array.find?_toList]; exact hc1
        rw [this]
        rfl
      · simp only [VRel]
        exact ⟨_, rfl, VRels.cons hc2 (VRels.cons hc3 VRels.nil)⟩
    split at h
    · rename_i m since seen last ho
      obtain ⟨f, ob, hf, hb, h0, fm, hfm, rfl⟩ := hW.obj a _ ho
      rw [he] at hf; cases hf
      split at h
      · rename_i b es clock hl ho2
        split at h
        · rename_i hc
          split at h
          · rename_i k w hfb
            cases h
            exact key h0 hb hfm (by simpa using hl) ho2 (Nat.eq_of_beq_eq_true hc) hfb
          · cases h
        · cases h
      · cases h
    · rename_i m b last ho
      obtain ⟨f, ob, hf, hb, h0, fm, since, seen, hfm, rfl, hst⟩ := hW.obj a _ ho
      rw [he] at hf; cases hf
      split at h
      · rename_i es clock ho2
        split at h
        · rename_i hc
          split at h
          · rename_i k w hfb
            cases h
            exact key h0 hb hfm hst ho2 (Nat.eq_of_beq_eq_true hc) hfb
          · cases h
        · cases h
      · cases h
    · cases h
  · cases h
end Go.AE
namespace Go.AE
variable {P : Program} {σ : Sg} {A : AW} {W : World} {T : TM}
theorem unary_ok (hW : WRel P σ A W) {op : UnOp} {z : Arg} {x : Value} {v : AV} {A' : AW} (i : IOp) (hi : (op = .not ∧ i = .not z) ∨ (op = .neg ∧ i = .neg z) ∨ (op = .xor ∧ i = .bnot z)) (hx : VRel σ (z.ev T) x) (h : iop T A i = some (v, A')) :
    ResV P σ A W ((Op.unary op x).run P W) v A' := by
  rcases hi with ⟨rfl, rfl⟩ | ⟨rfl, rfl⟩ | ⟨rfl, rfl⟩ <;> simp only [iop] at h
  · split at h
    · rename_i b hb
      cases h
      rw [hb] at hx; simp only [VRel] at hx; subst hx
      exact ⟨σ, _, W, by simp [Op.unary]; rfl, by simp [VRel], .refl hW⟩
    · cases h
  · split at h
    · rename_i k n hb
      cases h
      rw [hb] at hx; simp only [VRel] at hx; subst hx
      exact ⟨σ, _, W, by simp [Op.unary, Op.intArith]; rfl, by simp [VRel], .refl hW⟩
    · cases h
  · split at h
    · rename_i k n hb
      rw [hb] at hx; simp only [VRel] at hx; subst hx
      split at h
      · rename_i w hw
        cases h
        simp only [intBin] at hw
        cases hw
        exact ⟨σ, _, W, by simp [Op.unary, Op.intBits]; rfl, by simp [VRel], .refl hW⟩
      · cases h
    · cases h
theorem conv_ok (hW : WRel P σ A W) {s d : TypeId} {k0 k : IntKind} {z : Arg} {x : Value} {v : AV} {A' : AW} (hs : P.underlying s = some (.int k0)) (hd : P.underlying d = some (.int k)) (hx : VRel σ (z.ev T) x) (h : iop T A (.conv k z) = some (v, A')) :
    ResV P σ A W ((convert s d x).run P W) v A' := by
  simp only [iop] at h
  split at h
  · rename_i k1 n hb
    cases h
    rw [hb] at hx; simp only [VRel] at hx; subst hx
    refine ⟨σ, .int k (k.wrap n), W, ?_, by simp [VRel], .refl hW⟩
    simp [convert, underlying_run hs, underlying_run hd, Conv.intToInt]
  · cases h
theorem i2s_ok (hW : WRel P σ A W) {s d : TypeId} {k0 : IntKind} {z : Arg} {x : Value} {v : AV} {A' : AW} (hs : P.underlying s = some (.int k0)) (hd : P.underlying d = some .string) (hx : VRel σ (z.ev T) x) (h : iop T A (.i2s z) = some (v, A')) :
    ResV P σ A W ((convert s d x).run P W) v A' := by
  simp only [iop] at h
  split at h
  · rename_i k1 n hb
    split at h
    · rename_i hlt
      have hlt : n < 128 := Nat.blt_eq ▸ hlt
      cases h
      rw [hb] at hx; simp only [VRel] at hx; subst hx
      refine ⟨σ, .string ⟨#[UInt8.ofNat n]⟩, W, ?_, ?_, .refl hW⟩
      · simp only [convert, Sem.run_bind, underlying_run hs, underlying_run hd, Result.andThen_ok, Conv.intToString]
        have : Utf8.encode (Int.ofNat n) = ⟨#[UInt8.ofNat n]⟩ := by
          have hv : Utf8.valid (Int.ofNat n) = true := by
            simp [Utf8.valid]; omega
          simp only [Utf8.encode, hv, if_true]
          rw [if_pos (by simpa using hlt)]
          simp
        rw [this]
        rfl
      · simp only [VRel]
        refine ⟨_, rfl, ?_⟩
        simp; omega
    · cases h
  · cases h
theorem mkif_ok (hW : WRel P σ A W) {t : TypeId} {td : TypeDesc} {z : Arg} {x : Value} {v : AV} {A' : AW} (ht : P.underlying t = some td) (hn : ∀ m, td ≠ .interface m) (hx : VRel σ (z.ev T) x) (h : iop T A (.mkif t z) = some (v, A')) :
    ResV P σ A W ((Instr.makeInterface t x).run P W) v A' := by
  simp only [iop] at h
  cases h
  refine ⟨σ, .iface t x, W, ?_, by simp only [VRel]; exact ⟨x, rfl, hx⟩, .refl hW⟩
  simp only [Instr.makeInterface, Sem.run_bind, underlying_run ht, Result.andThen_ok]
  cases td <;> first | rfl | exact absurd rfl (hn _)
theorem extract_ok (hW : WRel P σ A W) {i : Nat} {z : Arg} {x : Value} {v : AV} {A' : AW} (hx : VRel σ (z.ev T) x) (h : iop T A (.extract i z) = some (v, A')) :
    ResV P σ A W ((Instr.extract x i).run P W) v A' := by
  simp only [iop] at h
  split at h
  · rename_i vs hb
    split at h
    · rename_i w hw
      cases h
      rw [hb] at hx; simp only [VRel] at hx
      obtain ⟨cs, rfl, hcs⟩ := hx
      rw [listGet_eq] at hw
      obtain ⟨c, hc, hv⟩ := hcs.get hw
      refine ⟨σ, c, W, ?_, hv, .refl hW⟩
      have : cs[i]? = some c := by rw [← Array.getElem?_toList]; exact hc
      simp [Instr.extract, this]
    · cases h
  · cases h
theorem tassert_ok (hW : WRel P σ A W) {xt a : TypeId} {ok : Bool} {td : TypeDesc} {zero : AV} {z : Arg} {x : Value} {v : AV} {A' : AW} (ht : P.underlying a = some td) (hn : ∀ m, td ≠ .interface m)
    (hz : (if ok then zeroOf P a else some AV.undef) = some zero) (hx : VRel σ (z.ev T) x) (h : iop T A (.tassert a zero ok z) = some (v, A')) :
    ResV P σ A W ((Instr.typeAssert x xt a ok).run P W) v A' := by
  have fails : ok = true → ∀ s d m, ∃ cv, (do if ok then pure (.tuple #[← zeroValue a, .bool false]) else runtimePanic (.typeAssertion s d a m) : Sem Value).run P W = .ok cv W ∧ VRel σ (.tup [zero, .bool false]) cv := by
    intro h s d m
    subst h
    obtain ⟨c, h1, h2⟩ := zeroValue_run (σ := σ) (show zeroOf P a = some zero by simpa using hz) W
    refine ⟨_, by simp [h1]; rfl, ?_⟩
    simp only [VRel]
    exact ⟨_, rfl, VRels.cons h2 (VRels.cons (by simp [VRel]) VRels.nil)⟩
  simp only [iop] at h
  split at h
  · rename_i hb
    rw [hb] at hx; simp only [VRel] at hx; subst hx
    split at h
    · rename_i hok
      cases h
      obtain ⟨cv, h1, h2⟩ := fails hok (some xt) none ""
      refine ⟨σ, cv, W, ?_, h2, .refl hW⟩
      rw [← h1]
      simp only [Instr.typeAssert, Sem.run_bind, underlying_run ht, Result.andThen_ok]
    · cases h
  · rename_i u w hb
    rw [hb] at hx; simp only [VRel] at hx
    obtain ⟨c, rfl, hc⟩ := hx
    split at h
    · rename_i hu
      have := Nat.eq_of_beq_eq_true hu
      subst this
      cases h
      refine ⟨σ, if ok then .tuple #[c, .bool true] else c, W, ?_, ?_, .refl hW⟩
      · simp only [Instr.typeAssert, Sem.run_bind, underlying_run ht, Result.andThen_ok]
        cases td <;> first | exact absurd rfl (hn _) | (simp)
      · split
        · simp only [VRel]; exact ⟨_, rfl, VRels.cons hc (VRels.cons (by simp [VRel]) VRels.nil)⟩
        · exact hc
    · rename_i hu
      have hu : u ≠ a := fun h => hu (by rw [h]; exact Nat.beq_refl _)
      split at h
      · rename_i hok
        cases h
        obtain ⟨cv, h1, h2⟩ := fails hok (some xt) (some u) ""
        refine ⟨σ, cv, W, ?_, h2, .refl hW⟩
        rw [← h1]
        simp only [Instr.typeAssert, Sem.run_bind, underlying_run ht, Result.andThen_ok]
        cases td <;> first | exact absurd rfl (hn _) | simp only [if_neg hu]
      · cases h
  · cases h
theorem maxmin_ok (hW : WRel P σ A W) {at_ : Array TypeId} {ty : TypeId} {y z : Arg} {x w : Value} {v : AV} {A' : AW} {mx : Bool} (hx : VRel σ (y.ev T) x) (hy : VRel σ (z.ev T) w) (h : iop T A (.maxmin mx [y, z]) = some (v, A')) :
    ResV P σ A W ((if mx then Builtin.max_ at_ ty #[x, w] else Builtin.min_ at_ ty #[x, w]).run P W) v A' := by
  simp only [iop, List.map_cons, List.map_nil] at h
  split at h
  · rename_i k a k' b heq
    injection heq with h1 h2
    injection h2 with h2 _
    cases h
    rw [h1] at hx; rw [h2] at hy
    simp only [VRel] at hx hy
    subst hx hy
    cases mx
    · exact ⟨σ, _, W, by simp [Builtin.min_, Builtin.min2]; rfl, by simp [VRel], .refl hW⟩
    · exact ⟨σ, _, W, by simp [Builtin.max_, Builtin.max2]; rfl, by simp [VRel], .refl hW⟩
  · cases h
end Go.AE
namespace Go.AE
variable {P : Program} {σ : Sg} {A : AW} {W : World} {T : TM}
theorem loadBytes_run {b o : Nat} : ∀ (bs : List Nat) (i : Nat) (acc : ByteArray), (∀ (k : Nat) (v : Nat), bs[k]? = some v → W.cell? ⟨b, o + i + k, none⟩ = some (.int .u8 v)) →
    (loadBytes ⟨b, o + i, none⟩ acc bs.length).run P W = .ok ⟨(acc.data.toList ++ bs.map UInt8.ofNat).toArray⟩ W
  | [], i, acc, _ => by simp [loadBytes]
  | x :: bs, i, acc, h => by
    have h0 := h 0 x rfl
    have ih := loadBytes_run bs (i + 1) (acc.push (UInt8.ofNat x)) (fun k v hv => by
      have := h (k + 1) v hv
      rw [← this, show o + (i + 1) + k = o + i + (k + 1) by omega])
    have hl : (load ⟨b, o + i, none⟩).run P W = .ok (.int .u8 x) W := by
      simp only [Nat.add_zero] at h0
      simp [load, Sem.run, h0]
    simp only [List.length_cons, loadBytes, Sem.run_bind, hl, Result.andThen_ok, Addr.add_none]
    rw [show o + i + 1 = o + (i + 1) by omega]
    have e : (Int.toNat (x : Int)).toUInt8 = UInt8.ofNat x := by simp
    rw [e, ih]
    congr 2
    cases acc
    simp [ByteArray.push]
theorem toBytes_get : ∀ {vs : List AV} {bs : List Nat}, toBytes vs = some bs → bs.length = vs.length ∧ (∀ b, b ∈ bs → b < 256) ∧ ∀ (k v : Nat), bs[k]? = some v → vs[k]? = some (.int .u8 v)
  | [], bs, h => by simp [toBytes] at h; subst h; simp
  | x :: vs, bs, h => by
    unfold toBytes at h
    split at h
    · rename_i heq; cases heq
    · rename_i n l heq
      injection heq with h1 h2
      subst h1 h2
      split at h
      · rename_i r hr
        split at h
        · rename_i hlt
          cases h
          obtain ⟨g1, g2, g3⟩ := toBytes_get hr
          refine ⟨by simp [g1], ?_, ?_⟩
          · intro b hb
            cases hb with
            | head => exact Nat.blt_eq ▸ hlt
            | tail _ hb => exact g2 b hb
          · intro k v hv
            cases k with
            | zero => simp at hv; subst hv; rfl
            | succ k => exact g3 k v hv
        · cases h
      · cases h
    · cases h
theorem variablesAt_byte {W : World} {b o n : Nat} {c : Array Value} {et : TypeId} {fz : Nat × Nat} (hb : W.heap[b]? = some (.cells c et fz)) (hs : sizeT P et = some 1) (hn : o + n ≤ c.size) :
    (variablesAt ⟨b, o, none⟩ et n).run P W = .ok true W := by
  have hc : P.cellsOf et = 1 := by
    simp only [Program.cellsOf]; simp only [sizeT] at hs; rw [hs]; rfl
  have hsh : W.shape? b = some (et, c.size) := by simp [World.shape?, hb]
  have hl : liesAt P P.depth et (c.size / 1) o et n = true := by
    show liesAt P (2 * (P.types.size + Made.depth) + 1 + 1) _ _ _ _ _ = true
    simp only [liesAt]
    have : rowAt P (fun x => sameLayout P P.depth x et) P.depth et (c.size / 1) o n = true := by
      show rowAt P _ (2 * (P.types.size + Made.depth) + 1 + 1) _ _ _ _ = true
      simp only [rowAt, hc, Nat.mod_one, Nat.div_one]
      have : sameLayout P P.depth et et = true := by
        show sameLayout P (2 * (P.types.size + Made.depth) + 1 + 1) et et = true
        simp [sameLayout]
      simp [this, hn]
    rw [this]; rfl
  simp only [variablesAt, program, shape, Sem.run_bind, Sem.run, hsh, Result.andThen_ok, hc, hl, Sem.run_pure]
theorem unsafeString_eq {at_ : Array TypeId} {ty t : TypeId} (h0 : at_[0]? = some t) (p : Option Addr) (k : IntKind) (m : Nat) (hm : m ≤ 2 ^ 60) : (Builtin.unsafeString_ at_ ty #[.pointer p, .int k (m : Int)]).run P W =
    (match p with
      | none => if m = 0 then .ok (.string .empty) W else (runtimePanic (.error "unsafe.String: ptr is nil and len is not zero") : Sem Value).run P W
      | some a => if m = 0 then .ok (.string .empty) W else (do
          if ← variablesAt a (← elemOf t) m then do
            let s ← loadBytes a .empty m
            freeze a m
            pure (.string s)
          else unsupported (.unsafePointer "String: not so many bytes at ptr") : Sem Value).run P W) := by
  have : Builtin.unsafeString_ at_ ty #[.pointer p, .int k (m : Int)] = (do
      let n ← asInt (.int k (m : Int))
      let some pt := at_[0]? | stuck "unsafe.String: no argument types"
      if n < 0 then runtimePanic (.error "unsafe.String: len out of range")
      if n > IntKind.i64.max then unsupported (.unsafePointer "String: a length above the largest int")
      match p with
      | none =>
        if n = 0 then pure (.string .empty)
        else runtimePanic (.error "unsafe.String: ptr is nil and len is not zero")
      | some a =>
        if n = 0 then pure (.string .empty)
        else if ← variablesAt a (← elemOf pt) n.toNat then do
          let s ← loadBytes a .empty n.toNat
          freeze a n.toNat
          pure (.string s)
        else unsupported (.unsafePointer "String: not so many bytes at ptr")) := rfl
  rw [this]
  have h1 : ¬ ((m : Int) < 0) := by omega
  have h2 : ¬ ((m : Int) > IntKind.i64.max) := by
    have : IntKind.i64.max = 9223372036854775807 := by decide
    rw [this]; omega
  have h3 : ((m : Int) = 0) = (m = 0) := by simp
  have ha : asInt (.int k (m : Int)) = pure (m : Int) := rfl
  simp only [ha, Sem.run_bind, Sem.run_pure, Result.andThen_ok, h0, if_neg h1, if_neg h2, h3, Int.toNat_natCast]
  cases p with
  | none => simp only []; split <;> rfl
  | some a => simp only []; split <;> first | rfl | (simp only [Sem.run_bind])
theorem modify_eq {h : Array Obj} {b : Nat} {o : Obj} (hb : h[b]? = some o) (f : Obj → Obj) : h.modify b f = h.setIfInBounds b (f o) := by
  obtain ⟨hlt, hb⟩ := Array.getElem?_eq_some_iff.1 hb
  apply Array.ext
  · simp
  · intro i h1 h2
    by_cases hi : b = i
    · subst hi; simp [Array.getElem_modify, hb]
    · rw [Array.getElem_modify, if_neg hi, Array.getElem_setIfInBounds_ne (by simpa using h1) hi]
theorem ustr_ok (hW : WRel P σ A W) {at_ : Array TypeId} {ty t et : TypeId} {zp zn : Arg} {x y : Value} {v : AV} {A' : AW} (h0 : at_[0]? = some t) (hu : P.underlying t = some (.pointer et)) (hs : sizeT P et = some 1)
    (hx : VRel σ (zp.ev T) x) (hy : VRel σ (zn.ev T) y) (h : iop T A (.ustr et zp zn) = some (v, A')) : ResV P σ A W ((Builtin.unsafeString_ at_ ty #[x, y]).run P W) v A' := by
  simp only [iop] at h
  split at h
  · rename_i k hp hn
    cases h
    rw [hp] at hx; rw [hn] at hy
    simp only [VRel] at hx hy
    subst hx hy
    exact ⟨σ, .string .empty, W, by exact (unsafeString_eq (P := P) (W := W) h0 _ _ 0 (by omega)), by simp only [VRel]; exact ⟨_, rfl, rfl⟩, .refl hW⟩
  · rename_i a off k hp hn
    cases h
    rw [hp] at hx; rw [hn] at hy
    simp only [VRel] at hx hy
    obtain ⟨e, he, rfl⟩ := hx
    subst hy
    exact ⟨σ, .string .empty, W, by exact (unsafeString_eq (P := P) (W := W) h0 _ _ 0 (by omega)), by simp only [VRel]; exact ⟨_, rfl, rfl⟩, .refl hW⟩
  · rename_i a off kk k hp hn
    rw [hp] at hx; rw [hn] at hy
    simp only [VRel] at hx hy
    obtain ⟨e, he, rfl⟩ := hx
    subst hy
    split at h
    · rename_i l et' g frz ho
      split at h
      · cases h
      rename_i hgz
      split at h
      · rename_i het
        rw [Bool.and_eq_true] at het
        have := Nat.eq_of_beq_eq_true het.1
        subst this
        have hle := Nat.le_of_ble_eq_true het.2
        split at h
        · rename_i vs hv
          split at h
          · rename_i bs hbs
            split at h
            · rename_i A1 hp2
              cases h
              obtain ⟨f, ob, hf, hb, c, fz, rfl, h1, h2, h3, h4, h5⟩ := hW.obj a _ ho
              rw [he] at hf; cases hf
              have hvl := hv
              rw [listDrop_eq] at hvl
              obtain ⟨hn1, rfl⟩ := takeN_some hvl
              obtain ⟨g1, g2, g3⟩ := toBytes_get hbs
              have hl2 : l.length ≥ off + (k + 1) := by
                rw [List.length_drop] at hn1; omega
              have hbl : bs.length = k + 1 := by rw [g1]; simp; omega
              have hcell : ∀ (q v : Nat), bs[q]? = some v → W.cell? ⟨e.blk, e.sh + off + q, none⟩ = some (.int .u8 v) := by
                intro q v hq
                have h6 := g3 q v hq
                have h7 : l[off + q]? = some (.int .u8 v) := by
                  rw [List.getElem?_take] at h6
                  split at h6
                  · rw [List.getElem?_drop] at h6; exact h6
                  · cases h6
                obtain ⟨cv, hc1, hc2⟩ := cell_of hW ho he h7
                simp only [VRel] at hc2
                subst hc2
                rw [← hc1, Nat.add_assoc]
              have hlb := loadBytes_run (P := P) (W := W) (b := e.blk) (o := e.sh + off) bs 0 ByteArray.empty (by simpa using hcell)
              rw [hbl] at hlb
              have hva := variablesAt_byte (P := P) (o := e.sh + off) (n := k + 1) hb hs (by omega)
              refine ⟨σ, .string ⟨(bs.map UInt8.ofNat).toArray⟩, _, ?_, str_of_bytes g2, Step.put hW hp2 he (.cells c et (if fz.1 == fz.2 then (e.sh + off, e.sh + off + (k + 1)) else (min fz.1 (e.sh + off), max fz.2 (e.sh + off + (k + 1))))) W.drawn ⟨c, _, rfl, h1, h2, h3, h4, by simp⟩ (by simp) (fun l0 et0 hcon => by
                rw [ho] at hcon; cases hcon; exact hgz rfl)⟩
              have := unsafeString_eq (P := P) (W := W) (ty := ty) h0 (some ⟨e.blk, e.sh + off, none⟩) kk (k + 1) hle
              rw [show ((k + 1 : Nat) : Int) = Int.ofNat (k + 1) from rfl] at this
              rw [this]
              simp only [Nat.add_one_ne_zero, if_false, elemOf, Sem.run_bind, underlying_run hu, Result.andThen_ok, Sem.run_pure, hva, if_true]
              rw [Nat.add_zero] at hlb
              rw [hlb]
              simp only [Result.andThen_ok, freeze, Sem.run]
              rw [show (ByteArray.empty.data.toList ++ List.map UInt8.ofNat bs).toArray = (List.map UInt8.ofNat bs).toArray from rfl]
              congr 1
              simp only [World.freeze, Nat.add_one_ne_zero, if_false]
              congr 1
              exact modify_eq hb _
            · cases h
          · cases h
        · cases h
      · cases h
    · cases h
  · cases h
theorem usd_ok (hW : WRel P σ A W) {at_ : Array TypeId} {ty : TypeId} {z : Arg} {x : Value} {v : AV} {A' : AW} (hx : VRel σ (z.ev T) x) (h : iop T A (.usd z) = some (v, A')) :
    ResV P σ A W ((Builtin.unsafeSliceData_ at_ ty #[x]).run P W) v A' := by
  have key : ∀ (a : Addr) (n c : Nat), c ≠ 0 → Builtin.unsafeSliceData_ at_ ty #[.slice (some a) n c] = pure (.pointer (some a)) := by
    intro a n c hc
    have : Builtin.unsafeSliceData_ at_ ty #[.slice (some a) n c] = (if c ≠ 0 then pure (.pointer (some a)) else do
      if (← viewAt a.block).isSome then pure (.pointer (some a)) else pure (.pointer (some ⟨← newObj (.view a (← elemOf ty)), 0, none⟩))) := rfl
    rw [this, if_pos hc]
  simp only [iop] at h
  split at h
  · rename_i hb
    cases h
    rw [hb] at hx; simp only [VRel] at hx; subst hx
    exact ⟨σ, .pointer none, W, rfl, by simp [VRel], .refl hW⟩
  · rename_i a off n g hb
    cases h
    rw [hb] at hx; simp only [VRel] at hx
    obtain ⟨e, c, he, rfl, h1, h2⟩ := hx
    refine ⟨σ, _, W, by rw [key _ _ _ (by omega)]; rfl, by simp only [VRel]; exact ⟨e, he, rfl⟩, .refl hW⟩
  · rename_i a off n c hb
    cases h
    rw [hb] at hx; simp only [VRel] at hx
    obtain ⟨e, he, rfl⟩ := hx
    refine ⟨σ, _, W, by rw [key _ _ _ (by omega)]; rfl, by simp only [VRel]; exact ⟨e, he, rfl⟩, .refl hW⟩
  · cases h
theorem seenAt_run {W : World} {b o : Nat} {c : Array Value} {et : TypeId} {fz : Nat × Nat} (hb : W.heap[b]? = some (.cells c et fz)) : (Conv.seenAt ⟨b, o, none⟩).run P W = .ok ⟨b, o, none⟩ W := by
  simp [Conv.seenAt, viewAt, shape, Sem.run, World.shape?, hb]
theorem up2_ok (hW : WRel P σ A W) {s d t : TypeId} {z : Arg} {x : Value} {v : AV} {A' : AW} {n : Nat} (hs : P.underlying s = some (.pointer t)) (hd : P.underlying d = some .unsafePointer) (hn : sizeT P t = some n) (hn0 : n ≠ 0)
    (hx : VRel σ (z.ev T) x) (h : iop T A (.up2 z) = some (v, A')) : ResV P σ A W ((convert s d x).run P W) v A' := by
  simp only [iop] at h
  split at h
  · rename_i hb
    cases h
    rw [hb] at hx; simp only [VRel] at hx; subst hx
    refine ⟨σ, .pointer none, W, ?_, by simp [VRel], .refl hW⟩
    simp [convert, underlying_run hs, underlying_run hd, Conv.unsafePointer]
  · rename_i a off hb
    split at h
    · rename_i l et g frz ho
      split at h
      · rename_i hlt
        have hlt : off < l.length := Nat.blt_eq ▸ hlt
        cases h
        rw [hb] at hx; simp only [VRel] at hx
        obtain ⟨e, he, rfl⟩ := hx
        obtain ⟨f, ob, hf, hob, c, fz, rfl, h1, h2, h3, h4, h5⟩ := hW.obj a _ ho
        rw [he] at hf; cases hf
        refine ⟨σ, .pointer (some ⟨e.blk, e.sh + off, none⟩), W, ?_, by simp only [VRel]; exact ⟨e, he, rfl⟩, .refl hW⟩
        have hc : (cellsIn e.blk).run P W = .ok (some c.size) W := by
          simp [cellsIn, shape, Sem.run, World.shape?, hob]
        simp only [convert, Sem.run_bind, underlying_run hs, underlying_run hd, Result.andThen_ok, Conv.unsafePointer, seenAt_run hob, hc, sizeOf_run hn]
        have : ¬ (e.sh + off ≥ c.size) := by omega
        simp [hn0, this]
      · cases h
    · cases h
  · cases h
theorem liesAt_same {et : TypeId} {cnt sz : Nat} (hs : sizeT P et = some sz) (h0 : sz ≠ 0) (hc : 1 ≤ cnt) : liesAt P P.depth et cnt 0 et 1 = true := by
  have hc' : P.cellsOf et = sz := by
    simp only [Program.cellsOf]; simp only [sizeT] at hs; rw [hs]; rfl
  show liesAt P (2 * (P.types.size + Made.depth) + 1 + 1) _ _ _ _ _ = true
  simp only [liesAt]
  have : rowAt P (fun x => sameLayout P P.depth x et) P.depth et cnt 0 1 = true := by
    show rowAt P _ (2 * (P.types.size + Made.depth) + 1 + 1) _ _ _ _ = true
    simp only [rowAt, hc']
    have : sameLayout P P.depth et et = true := by
      show sameLayout P (2 * (P.types.size + Made.depth) + 1 + 1) et et = true
      simp [sameLayout]
    simp [this, hc, h0]
  rw [this]; rfl
theorem p2u_ok (hW : WRel P σ A W) {s d u : TypeId} {z : Arg} {x : Value} {v : AV} {A' : AW} {n : Nat} (hs : P.underlying s = some .unsafePointer) (hd : P.underlying d = some (.pointer u)) (hn : sizeT P u = some n) (hn0 : n ≠ 0)
    (hx : VRel σ (z.ev T) x) (h : iop T A (.p2u u n z) = some (v, A')) : ResV P σ A W ((convert s d x).run P W) v A' := by
  simp only [iop] at h
  split at h
  · rename_i hb
    cases h
    rw [hb] at hx; simp only [VRel] at hx; subst hx
    refine ⟨σ, .pointer none, W, ?_, by simp [VRel], .refl hW⟩
    simp [convert, underlying_run hs, underlying_run hd, Conv.unsafePointer]
  · rename_i a hb
    split at h
    · rename_i l et frz ho
      split at h
      · rename_i hc
        rw [Bool.and_eq_true] at hc
        have hc1 := Nat.eq_of_beq_eq_true hc.1
        have hc2 := Nat.le_of_ble_eq_true hc.2
        subst hc1
        cases h
        rw [hb] at hx; simp only [VRel] at hx
        obtain ⟨e, he, rfl⟩ := hx
        obtain ⟨f, ob, hf, hob, c, fz, rfl, h1, h2, h3, h4, h5⟩ := hW.obj a _ ho
        rw [he] at hf; cases hf
        obtain ⟨h3a, h3b⟩ := h3 rfl
        refine ⟨σ, .pointer (some ⟨e.blk, e.sh + 0, none⟩), W, ?_, by simp only [VRel]; exact ⟨e, he, rfl⟩, .refl hW⟩
        have hcells : P.cellsOf et = n := by
          simp only [Program.cellsOf]; simp only [sizeT] at hn; rw [hn]; rfl
        have hv : (variablesAt ⟨e.blk, e.sh + 0, none⟩ et 1).run P W = .ok true W := by
          have hsh : W.shape? e.blk = some (et, c.size) := by simp [World.shape?, hob]
          have hl : liesAt P P.depth et (c.size / n) 0 et 1 = true := liesAt_same hn hn0 ((Nat.le_div_iff_mul_le (by omega)).2 (by omega))
          simp only [variablesAt, program, shape, Sem.run_bind, Sem.run, hsh, Result.andThen_ok, hcells, h3a, Nat.add_zero, hl, Sem.run_pure]
        simp only [convert, Sem.run_bind, underlying_run hs, underlying_run hd, Result.andThen_ok, Conv.unsafePointer, seenAt_run hob, hv, sizeOf_run hn]
        simp
      · cases h
    · cases h
  · cases h
end Go.AE
namespace Go.AE
variable {P : Program} {σ : Sg} {A A' : AW} {W : World} {T : TM} {a : Act} {v : AV} {o : Oper} {i : IOp}
theorem Res.val {ρ : Operand → Value} {s : Sem Value} (he : execOp ρ o = (do Pure.pure (Next.value (← s)))) (h : ResV P σ A W (s.run P W) v A') : Res P σ A W ((execOp ρ o).run P W) v A' := by
  rw [he]; exact ResV.value h
theorem Res.uni {ρ : Operand → Value} {s : Sem Unit} {W' : World} (he : execOp ρ o = (do s; Pure.pure Next.skip)) (h1 : s.run P W = .ok () W') (h2 : Step P σ A W σ A' W') : Res P σ A W ((execOp ρ o).run P W) .undef A' := by
  rw [he]; exact Res.unit h1 h2
theorem Res.here {ρ : Operand → Value} {cv : Value} (hW : WRel P σ A W) (he : execOp ρ o = Pure.pure (Next.value cv)) (h : VRel σ v cv) : Res P σ A W ((execOp ρ o).run P W) v A := by
  rw [he]; exact ⟨σ, cv, W, .inl rfl, h, .refl hW⟩
theorem args_rel (hT : TRel σ T a.tmps) (hG : GRel P σ) : ∀ {xs : List Operand} {ys : List Arg}, xs.mapM (argOf P) = some ys → VRels σ (ys.map (Arg.ev T)) (xs.map a.eval)
  | [], ys, h => by simp at h; subst h; exact VRels.nil
  | x :: xs, ys, h => by
    simp only [List.mapM_cons, Option.bind_eq_bind, Option.bind_eq_some_iff, Option.pure_def, Option.some.injEq] at h
    obtain ⟨y, hy, ys', hys, rfl⟩ := h
    exact VRels.cons (arg_rel hT hG hy) (args_rel hT hG hys)

section
variable (hW : WRel P σ A W) (hT : TRel σ T a.tmps) (hG : GRel P σ) (hc : compO P o = some i) (h : iop T A i = some (v, A'))
include hW hT hG hc h
theorem op_mov {x : Operand} (hop : o.op = .move x ∨ o.op = .assign x) : Res P σ A W ((execOp a.eval o).run P W) v A' := by
  rcases hop with hop | hop <;>
  · simp only [compO, hop, Option.bind_eq_bind, Option.pure_def, Option.bind_eq_some_iff, Option.some.injEq] at hc
    obtain ⟨y, hy, rfl⟩ := hc
    simp only [iop] at h
    cases h
    exact Res.here hW (by simp only [execOp, hop]) (arg_rel hT hG hy)
theorem op_pick {c x y : Operand} (hop : o.op = .pick c x y) : Res P σ A W ((execOp a.eval o).run P W) v A' := by
  simp only [compO, hop, Option.bind_eq_bind, Option.pure_def, Option.bind_eq_some_iff, Option.some.injEq] at hc
  obtain ⟨c', hc', x', hx', y', hy', rfl⟩ := hc
  have h1 := arg_rel hT hG hc'
  simp only [iop] at h
  split at h
  · rename_i hb
    cases h
    rw [hb] at h1; simp only [VRel] at h1
    exact Res.here hW (by simp only [execOp, hop, h1, asBool]; rfl) (arg_rel hT hG hx')
  · rename_i hb
    cases h
    rw [hb] at h1; simp only [VRel] at h1
    exact Res.here hW (by simp only [execOp, hop, h1, asBool]; rfl) (arg_rel hT hG hy')
  · cases h
theorem op_alloc {e : TypeId} (hop : o.op = .alloc e) : Res P σ A W ((execOp a.eval o).run P W) v A' := by
  simp only [compO, hop, Option.bind_eq_bind, Option.pure_def, Option.bind_eq_some_iff, Option.some.injEq] at hc
  obtain ⟨z, hz, rfl⟩ := hc
  simp only [iop] at h
  cases h
  exact Res.val (by simp only [execOp, hop]) (alloc_ok hW hz)
theorem op_box {e : TypeId} {x : Operand} (hop : o.op = .box e x) : Res P σ A W ((execOp a.eval o).run P W) v A' := by
  simp only [compO, hop, Option.bind_eq_bind, Option.pure_def, Option.bind_eq_some_iff, Option.some.injEq] at hc
  obtain ⟨z, hz, rfl⟩ := hc
  simp only [iop] at h
  split at h
  · cases h
  rename_i hu
  cases h
  exact Res.val (by simp only [execOp, hop]) (box_ok hW (arg_rel hT hG hz) (Bool.eq_false_iff.2 hu))
theorem op_build {t : TypeId} {ps : Array (Nat × Operand)} (hop : o.op = .build t ps) : Res P σ A W ((execOp a.eval o).run P W) v A' := by
  simp only [compO, hop, Option.bind_eq_bind, Option.pure_def, Option.bind_eq_some_iff, Option.some.injEq] at hc
  split at hc
  · cases hc
  · rename_i hns
    simp only [Option.bind_eq_some_iff, Option.some.injEq] at hc
    obtain ⟨z, hz, p, hp, rfl⟩ := hc
    simp only [iop] at h
    split at h
    · rename_i l hl
      cases h
      exact Res.val (by simp only [execOp, hop]) (build_ok hW hT hG hz hp (fun e he => hns e he) hl)
    · cases h
theorem op_bslice {t : TypeId} {len : Nat} {ps : Array (Nat × Operand)} (hop : o.op = .buildSlice t len ps) : Res P σ A W ((execOp a.eval o).run P W) v A' := by
  simp only [compO, hop, Option.bind_eq_bind, Option.pure_def, Option.bind_eq_some_iff, Option.some.injEq] at hc
  split at hc
  · rename_i e hu
    simp only [Option.bind_eq_some_iff] at hc
    obtain ⟨z, hz, n, hn, hc⟩ := hc
    split at hc
    · cases hc
    · rename_i hb
      simp only [Option.bind_eq_some_iff, Option.some.injEq] at hc
      obtain ⟨p, hp, rfl⟩ := hc
      simp only [iop] at h
      split at h
      · rename_i l hl
        cases h
        have h1 : z.cells.length = n := by
          by_cases h' : z.cells.length = n
          · exact h'
          · exact absurd (Or.inr h') hb
        have h2 : len * n ≤ 2 ^ 12 := by
          by_cases h' : len * n ≤ 2 ^ 12
          · exact h'
          · exact absurd (Or.inl (by omega)) hb
        exact Res.val (by simp only [execOp, hop]) (bslice_ok hW hT hG hu hz hn h1 h2 hp hl)
      · cases h
  · cases hc
theorem op_load {t : TypeId} {x : Operand} (hop : o.op = .load t x) : Res P σ A W ((execOp a.eval o).run P W) v A' := by
  simp only [compO, hop, Option.bind_eq_bind, Option.pure_def, Option.bind_eq_some_iff, Option.some.injEq] at hc
  obtain ⟨b, hb, hc⟩ := hc
  split at hc
  · rename_i hbt
    subst hbt
    simp only [Option.bind_eq_some_iff, Option.some.injEq] at hc
    obtain ⟨n, hn, y, hy, rfl⟩ := hc
    have hx := arg_rel hT hG hy
    simp only [iop] at h
    split at h
    · rename_i p off hp
      split at h
      · rename_i l et g z ho
        split at h
        · rename_i vs hv
          cases h
          exact Res.val (by simp only [execOp, hop]) (loadnAt_ok hW hb hn (hp ▸ hx) ho hv)
        · cases h
      · cases h
    · cases h
  · rename_i hbt
    have hbt : b = false := by simpa using hbt
    subst hbt
    simp only [Option.bind_eq_some_iff, Option.some.injEq] at hc
    obtain ⟨y, hy, rfl⟩ := hc
    have hx := arg_rel hT hG hy
    simp only [iop] at h
    split at h
    · rename_i p off hp
      split at h
      · rename_i l et g z ho
        split at h
        · rename_i vs hv
          cases h
          exact Res.val (by simp only [execOp, hop]) (loadAt_ok hW hb (hp ▸ hx) ho hv)
        · cases h
      · cases h
    · cases h
theorem op_store {t : TypeId} {x y : Operand} (hop : o.op = .store t x y) : Res P σ A W ((execOp a.eval o).run P W) v A' := by
  simp only [compO, hop, Option.bind_eq_bind, Option.pure_def, Option.bind_eq_some_iff, Option.some.injEq] at hc
  obtain ⟨b, hb, hc⟩ := hc
  split at hc
  · simp only [Option.bind_eq_some_iff, Option.some.injEq] at hc
    obtain ⟨n, hn, x', hx', y', hy', rfl⟩ := hc
    have hx := arg_rel hT hG hx'
    have hy := arg_rel hT hG hy'
    simp only [iop] at h
    split at h
    · rename_i p off hp
      split at h
      · rename_i l et g z ho
        split at h
        · cases h
        · rename_i hz
          have hz : z = false := by simpa using hz
          subst hz
          split at h
          · rename_i vs hv
            split at h
            · rename_i hvs
              split at h
              · rename_i l' hl'
                split at h
                · rename_i A1 hA
                  cases h
                  obtain ⟨W', h1, h2⟩ := storenAt_ok hW hn (hp ▸ hx) ho (hv ▸ hy) hvs.1 hvs.2 hl' hA
                  exact Res.uni (by simp only [execOp, hop]) h1 h2
                · cases h
              · cases h
            · cases h
          · cases h
      · cases h
    · cases h
  · split at hc
    · rename_i hn
      simp only [Option.bind_eq_some_iff, Option.some.injEq] at hc
      obtain ⟨x', hx', y', hy', rfl⟩ := hc
      have hx := arg_rel hT hG hx'
      have hy := arg_rel hT hG hy'
      simp only [iop] at h
      split at h
      · rename_i p off hp
        split at h
        · rename_i l et g z ho
          split at h
          · cases h
          · rename_i hz
            have hz : z = false := by simpa using hz
            subst hz
            split at h
            · rename_i h1
              split at h
              · rename_i u hl
                split at h
                · rename_i A1 hA
                  cases h
                  obtain ⟨W', h1, h2⟩ := storeAt_ok hW hn (hp ▸ hx) ho hy h1 hl hA
                  exact Res.uni (by simp only [execOp, hop]) h1 h2
                · cases h
              · cases h
            · cases h
        · cases h
      · cases h
    · cases hc
theorem op_nilck {x : Operand} (hop : o.op = .nilCheck x) : Res P σ A W ((execOp a.eval o).run P W) v A' := by
  simp only [compO, hop, Option.bind_eq_bind, Option.pure_def, Option.bind_eq_some_iff, Option.some.injEq] at hc
  obtain ⟨y, hy, rfl⟩ := hc
  have hx := arg_rel hT hG hy
  simp only [iop] at h
  split at h
  · rename_i p off hb; cases h; exact nilCheck_ok hW hop (hb ▸ hx) rfl
  · rename_i p off hb; cases h; exact nilCheck_ok hW hop (hb ▸ hx) rfl
  · rename_i p hb; cases h; exact nilCheck_ok hW hop (hb ▸ hx) rfl
  · rename_i t w hb
    cases h
    rw [hb] at hx
    have hx' := hx
    simp only [VRel] at hx
    obtain ⟨u, hu, _⟩ := hx
    exact Res.here hW (by simp only [execOp, hop, hu]) (hu ▸ hx')
  · cases h
end
end Go.AE
namespace Go.AE
variable {P : Program} {σ : Sg} {A A' : AW} {W : World} {T : TM} {a : Act} {v : AV} {o : Oper} {i : IOp}
theorem isSome_none {α : Type} {x : Option α} (h : ¬ x.isSome = true) : x = none := by simpa using h
theorem VRel.int_iff {k : IntKind} {n : Int} {x : Value} : VRel σ (.int k n) x → x = .int k n := by simp only [VRel]; exact id
section
variable (hW : WRel P σ A W) (hT : TRel σ T a.tmps) (hG : GRel P σ) (hc : compO P o = some i) (h : iop T A i = some (v, A'))
include hW hT hG hc h

theorem op_unop {op : UnOp} {t : TypeId} {x : Operand} (hop : o.op = .unOp op t x) : Res P σ A W ((execOp a.eval o).run P W) v A' := by
  simp only [compO, hop, Option.bind_eq_bind, Option.pure_def, Option.bind_eq_some_iff, Option.some.injEq] at hc
  split at hc
  · obtain ⟨y, hy, rfl⟩ := (by simpa only [Option.bind_eq_some_iff, Option.some.injEq] using hc : ∃ y, argOf P x = some y ∧ IOp.not y = i)
    exact Res.val (by simp only [execOp, hop]) (unary_ok hW _ (.inl ⟨rfl, rfl⟩) (arg_rel hT hG hy) h)
  · obtain ⟨y, hy, rfl⟩ := (by simpa only [Option.bind_eq_some_iff, Option.some.injEq] using hc : ∃ y, argOf P x = some y ∧ IOp.neg y = i)
    exact Res.val (by simp only [execOp, hop]) (unary_ok hW _ (.inr (.inl ⟨rfl, rfl⟩)) (arg_rel hT hG hy) h)
  · obtain ⟨y, hy, rfl⟩ := (by simpa only [Option.bind_eq_some_iff, Option.some.injEq] using hc : ∃ y, argOf P x = some y ∧ IOp.bnot y = i)
    exact Res.val (by simp only [execOp, hop]) (unary_ok hW _ (.inr (.inr ⟨rfl, rfl⟩)) (arg_rel hT hG hy) h)
  · cases hc
theorem op_mkif {t : TypeId} {x : Operand} (hop : o.op = .makeInterface t x) : Res P σ A W ((execOp a.eval o).run P W) v A' := by
  simp only [compO, hop, Option.bind_eq_bind, Option.pure_def, Option.bind_eq_some_iff, Option.some.injEq] at hc
  split at hc
  · cases hc
  · rename_i td hn hu
    simp only [Option.bind_eq_some_iff, Option.some.injEq] at hc
    obtain ⟨y, hy, rfl⟩ := hc
    exact Res.val (by simp only [execOp, hop]) (mkif_ok hW hu (fun m hm => hn m hm) (arg_rel hT hG hy) h)
  · cases hc
theorem op_mkfn {f : Fn} {x y : Array Operand} (hop : o.op = .makeFunc f x y) : Res P σ A W ((execOp a.eval o).run P W) v A' := by
  simp only [compO, hop, Option.bind_eq_bind, Option.pure_def, Option.bind_eq_some_iff, Option.some.injEq] at hc
  split at hc
  · simp only [Option.bind_eq_some_iff, Option.some.injEq] at hc
    obtain ⟨f1, hf1, c1, hc1, rfl⟩ := hc
    simp only [iop] at h
    cases h
    refine Res.here hW (by simp only [execOp, hop, Instr.makeFunc]; rfl) ?_
    simp only [VRel]
    exact ⟨_, _, rfl, by rw [Array.toList_map]; exact args_rel hT hG hf1, by rw [Array.toList_map]; exact args_rel hT hG hc1⟩
  · cases hc
theorem op_mkmap {t : TypeId} {r : Option Operand} (hop : o.op = .makeMap t r) : Res P σ A W ((execOp a.eval o).run P W) v A' := by
  cases r with
  | none =>
    simp only [compO, hop, Option.bind_eq_bind, Option.pure_def, Option.bind_eq_some_iff, Option.some.injEq] at hc
    subst hc
    simp only [iop] at h
    cases h
    have hs := Step.new hW (.map [] 0) (.map #[] 0) 0 0 W.drawn (fun τ hτ => ⟨#[], rfl, by simp [ESRel], by simp⟩)
    refine Res.val (s := Instr.makeMap t none) (by simp only [execOp, hop, Option.map_none]) ⟨_, .map (some W.heap.size), _, rfl, ?_, hs⟩
    simp only [VRel]; exact ⟨_, Sg.set_same _ _ _, rfl⟩
  | some r => simp only [compO, hop] at hc; cases hc
theorem op_mkslice {t : TypeId} {l c : Operand} (hop : o.op = .makeSlice t l c) : Res P σ A W ((execOp a.eval o).run P W) v A' := by
  simp only [compO, hop, Option.bind_eq_bind, Option.pure_def, Option.bind_eq_some_iff, Option.some.injEq] at hc
  split at hc
  · rename_i e hu
    simp only [Option.bind_eq_some_iff, Option.some.injEq] at hc
    obtain ⟨ti, hi, z, hz, hc⟩ := hc
    split at hc
    · cases hc
    · rename_i hn
      simp only [Option.bind_eq_some_iff, Option.some.injEq] at hc
      obtain ⟨l', hl, c', hc', rfl⟩ := hc
      have h1 := arg_rel hT hG hl
      have h2 := arg_rel hT hG hc'
      simp only [iop] at h
      split at h
      · rename_i k n k' m e1 e2
        split at h
        · rename_i hb
          simp only [Bool.and_eq_true] at hb
          cases h
          exact Res.val (by simp only [execOp, hop]) (mkslice_ok hW hu hi hz (by
            by_cases h' : sizeT P e = some z.cells.length
            · exact h'
            · exact absurd (Or.inr h') hn) (fun h' => hn (Or.inl h')) (e1 ▸ h1) (e2 ▸ h2) (Nat.le_of_ble_eq_true hb.1.1) (Nat.le_of_ble_eq_true hb.1.2) (Nat.le_of_ble_eq_true hb.2))
        · cases h
      · cases h
  · cases hc
theorem op_slice {t : TypeId} {x : Operand} {lo hi mx : Option Operand} (hop : o.op = .slice t x lo hi mx) : Res P σ A W ((execOp a.eval o).run P W) v A' := by
  simp only [compO, hop, Option.bind_eq_bind, Option.pure_def, Option.bind_eq_some_iff, Option.some.injEq] at hc
  split at hc
  · rename_i hu
    split at hc
    · cases hc
    · rename_i hm
      have hm := isSome_none hm
      subst hm
      simp only [Option.bind_eq_some_iff, Option.some.injEq] at hc
      obtain ⟨x', hx', lo', hlo, hi', hhi, rfl⟩ := hc
      have hx := arg_rel hT hG hx'
      simp only [iop] at h
      split at h
      · rename_i s hs
        split at h
        · rename_i hh e1
          split at h
          · rename_i ll e2
            split at h
            · rename_i r hr
              cases h
              exact Res.val (by simp only [execOp, hop, Option.map_none]) (slstr_ok hW hT hG hu (hs ▸ hx) hlo hhi e1 e2 hr)
            · cases h
          · cases h
        · cases h
      · cases h
  · rename_i e hu
    split at hc
    · cases hc
    · rename_i hm
      simp only [Option.bind_eq_some_iff, Option.some.injEq] at hc
      obtain ⟨n, hn, x', hx', lo', hlo, hi', hhi, mx', hmx, rfl⟩ := hc
      have hx := arg_rel hT hG hx'
      obtain ⟨rfl, hr⟩ := slsl_ok hW hT hG hu hn rfl hx hlo hhi hmx (Bool.eq_false_iff.2 hm) h
      exact Res.val (by simp only [execOp, hop]) hr
  · rename_i n e hu
    split at hc
    · cases hc
    · rename_i hm
      have hm := isSome_none hm
      subst hm
      simp only [Option.bind_eq_some_iff, Option.some.injEq] at hc
      obtain ⟨esz, hn, x', hx', lo', hlo, hi', hhi, rfl⟩ := hc
      have hx := arg_rel hT hG hx'
      simp only [iop] at h
      split at h
      · rename_i p off hp
        split at h
        · rename_i hh e1
          split at h
          · rename_i ll e2
            have key := slarr_ok hW hT hG hu hn (hp ▸ hx) hlo hhi e1 e2
            split at h
            · rename_i hb
              cases h
              rw [if_pos hb] at key
              exact Res.val (by simp only [execOp, hop, Option.map_none]) key
            · rename_i hb
              cases h
              rw [if_neg hb] at key
              exact Res.val (by simp only [execOp, hop, Option.map_none]) key
          · cases h
        · cases h
      · cases h
  · cases hc
theorem op_faddr {s : TypeId} {x : Operand} {k : Nat} (hop : o.op = .fieldAddr s x k) : Res P σ A W ((execOp a.eval o).run P W) v A' := by
  simp only [compO, hop, Option.bind_eq_bind, Option.pure_def, Option.bind_eq_some_iff, Option.some.injEq] at hc
  split at hc
  · rename_i fs hu
    simp only [Option.bind_eq_some_iff, Option.some.injEq] at hc
    obtain ⟨f, hf, n, hn, hc⟩ := hc
    split at hc
    · cases hc
    · rename_i h0
      simp only [Option.bind_eq_some_iff, Option.some.injEq] at hc
      obtain ⟨x', hx', rfl⟩ := hc
      have hx := arg_rel hT hG hx'
      simp only [iop] at h
      split at h
      · rename_i p off hp
        cases h
        exact Res.val (by simp only [execOp, hop]) (fieldAt_ok hW hu hf hn h0 (hp ▸ hx))
      · cases h
  · cases hc
theorem op_field {t : TypeId} {x : Operand} {k : Nat} (hop : o.op = .field t x k) : Res P σ A W ((execOp a.eval o).run P W) v A' := by
  simp only [compO, hop, Option.bind_eq_bind, Option.pure_def, Option.bind_eq_some_iff, Option.some.injEq] at hc
  split at hc
  · rename_i fs hu
    simp only [Option.bind_eq_some_iff, Option.some.injEq] at hc
    obtain ⟨f, hf, b, hb, hc⟩ := hc
    split at hc
    · rename_i hbt
      subst hbt
      simp only [Option.bind_eq_some_iff, Option.some.injEq] at hc
      obtain ⟨n, hn, x', hx', rfl⟩ := hc
      have hx := arg_rel hT hG hx'
      simp only [iop] at h
      split at h
      · rename_i cs hcs
        split at h
        · rename_i vs hv
          cases h
          exact Res.val (by simp only [execOp, hop]) (fieldn_ok hW hu hf hb hn (hcs ▸ hx) hv)
        · cases h
      · cases h
    · rename_i hbt
      have hbt : b = false := by simpa using hbt
      subst hbt
      simp only [Option.bind_eq_some_iff, Option.some.injEq] at hc
      obtain ⟨x', hx', rfl⟩ := hc
      have hx := arg_rel hT hG hx'
      simp only [iop] at h
      split at h
      · rename_i cs hcs
        split at h
        · rename_i vs hv
          cases h
          exact Res.val (by simp only [execOp, hop]) (field_ok hW hu hf hb (hcs ▸ hx) hv)
        · cases h
      · cases h
  · cases hc
theorem op_iaddr {t : TypeId} {x ix : Operand} (hop : o.op = .indexAddr t x ix) : Res P σ A W ((execOp a.eval o).run P W) v A' := by
  simp only [compO, hop, Option.bind_eq_bind, Option.pure_def, Option.bind_eq_some_iff, Option.some.injEq] at hc
  split at hc
  · rename_i e hu
    simp only [Option.bind_eq_some_iff, Option.some.injEq] at hc
    obtain ⟨n, hn, x', hx', i', hi', rfl⟩ := hc
    have hx := arg_rel hT hG hx'
    have hi := arg_rel hT hG hi'
    simp only [iop] at h
    split at h
    · rename_i p off len c k m e1 e2
      split at h
      · rename_i hlt
        cases h
        exact Res.val (by simp only [execOp, hop]) (iaddr_ok hW hu hn (e1 ▸ hx) (e2 ▸ hi) (Nat.blt_eq ▸ hlt))
      · cases h
    · cases h
  · rename_i len e hu
    simp only [Option.bind_eq_some_iff, Option.some.injEq] at hc
    obtain ⟨n, hn, x', hx', i', hi', rfl⟩ := hc
    have hx := arg_rel hT hG hx'
    have hi := arg_rel hT hG hi'
    simp only [iop] at h
    split at h
    · rename_i p off k m e1 e2
      split at h
      · rename_i hlt
        cases h
        exact Res.val (by simp only [execOp, hop]) (iaddra_ok hW hu hn (e1 ▸ hx) (e2 ▸ hi) (Nat.blt_eq ▸ hlt))
      · cases h
    · cases h
  · cases hc
theorem op_index {t : TypeId} {x ix : Operand} (hop : o.op = .index t x ix) : Res P σ A W ((execOp a.eval o).run P W) v A' := by
  simp only [compO, hop, Option.bind_eq_bind, Option.pure_def, Option.bind_eq_some_iff, Option.some.injEq] at hc
  split at hc
  · rename_i hu
    simp only [Option.bind_eq_some_iff, Option.some.injEq] at hc
    obtain ⟨x', hx', i', hi', rfl⟩ := hc
    have hx := arg_rel hT hG hx'
    have hi := arg_rel hT hG hi'
    simp only [iop] at h
    split at h
    · rename_i s k m e1 e2
      split at h
      · rename_i b hb
        cases h
        exact Res.val (by simp only [execOp, hop]) (idxs_ok hW hu (e1 ▸ hx) (e2 ▸ hi) hb)
      · cases h
    · cases h
  · rename_i len e hu
    simp only [Option.bind_eq_some_iff, Option.some.injEq] at hc
    obtain ⟨n, hn, b, hb, x', hx', i', hi', rfl⟩ := hc
    have hx := arg_rel hT hG hx'
    have hi := arg_rel hT hG hi'
    simp only [iop] at h
    split at h
    · rename_i cs k m e1 e2
      split at h
      · rename_i hlt
        have hlt : m < len := Nat.blt_eq ▸ hlt
        split at h
        · rename_i hbt
          subst hbt
          split at h
          · rename_i vs hv
            cases h
            exact Res.val (by simp only [execOp, hop]) (idxan_ok hW hu hn hb (e1 ▸ hx) (e2 ▸ hi) hlt hv)
          · cases h
        · rename_i hbt
          have hbt : b = false := by simpa using hbt
          subst hbt
          split at h
          · rename_i vs hv
            cases h
            exact Res.val (by simp only [execOp, hop]) (idxa_ok hW hu hn hb (e1 ▸ hx) (e2 ▸ hi) hlt hv)
          · cases h
      · cases h
    · cases h
  · cases hc
theorem op_lookup {t : TypeId} {m k : Operand} {ok : Bool} (hop : o.op = .lookup t m k ok) : Res P σ A W ((execOp a.eval o).run P W) v A' := by
  simp only [compO, hop, Option.bind_eq_bind, Option.pure_def, Option.bind_eq_some_iff, Option.some.injEq] at hc
  split at hc
  · rename_i q e hu
    simp only [Option.bind_eq_some_iff, Option.some.injEq] at hc
    obtain ⟨kk, hkk, z, hz, m', hm, k', hk, rfl⟩ := hc
    exact Res.val (by simp only [execOp, hop]) (lookup_ok hW hu hkk hz (arg_rel hT hG hm) (arg_rel hT hG hk) h)
  · cases hc
theorem op_mupd {t : TypeId} {m k x : Operand} (hop : o.op = .mapUpdate t m k x ∨ o.op = .insert t m k x) : Res P σ A W ((execOp a.eval o).run P W) v A' := by
  rcases hop with hop | hop <;>
  · simp only [compO, hop, Option.bind_eq_bind, Option.pure_def, Option.bind_eq_some_iff, Option.some.injEq] at hc
    split at hc
    · rename_i q e hu
      simp only [Option.bind_eq_some_iff, Option.some.injEq] at hc
      obtain ⟨kk, hkk, m', hm, k', hk, x', hx, rfl⟩ := hc
      obtain ⟨rfl, W', h1, h2⟩ := mupd_ok hW hu hkk (arg_rel hT hG hm) (arg_rel hT hG hk) (arg_rel hT hG hx) h
      exact Res.uni (by simp only [execOp, hop]) h1 h2
    · cases hc
theorem op_mentry {t : TypeId} {m k : Operand} (hop : o.op = .mapEntry t m k) : Res P σ A W ((execOp a.eval o).run P W) v A' := by
  simp only [compO, hop, Option.bind_eq_bind, Option.pure_def, Option.bind_eq_some_iff, Option.some.injEq] at hc
  split at hc
  · rename_i q e hu
    simp only [Option.bind_eq_some_iff, Option.some.injEq] at hc
    obtain ⟨kk, hkk, z, hz, m', hm, k', hk, rfl⟩ := hc
    exact Res.val (by simp only [execOp, hop]) (mentry_ok hW hu hkk hz (arg_rel hT hG hm) (arg_rel hT hG hk) h)
  · cases hc
theorem op_estore {t : TypeId} {m s x : Operand} (hop : o.op = .entryStore t m s x) : Res P σ A W ((execOp a.eval o).run P W) v A' := by
  simp only [compO, hop, Option.bind_eq_bind, Option.pure_def, Option.bind_eq_some_iff, Option.some.injEq] at hc
  obtain ⟨m', hm, s', hs, x', hx, rfl⟩ := hc
  obtain ⟨rfl, W', h1, h2⟩ := estore_ok (t := t) hW (arg_rel hT hG hm) (arg_rel hT hG hs) (arg_rel hT hG hx) h
  exact Res.uni (by simp only [execOp, hop]) h1 h2
theorem op_range {t : TypeId} {x : Operand} (hop : o.op = .range t x) : Res P σ A W ((execOp a.eval o).run P W) v A' := by
  simp only [compO, hop, Option.bind_eq_bind, Option.pure_def, Option.bind_eq_some_iff, Option.some.injEq] at hc
  split at hc
  · rename_i hu
    simp only [Option.bind_eq_some_iff, Option.some.injEq] at hc
    obtain ⟨x', hx', rfl⟩ := hc
    have hx := arg_rel hT hG hx'
    simp only [iop] at h
    split at h
    · rename_i s hs
      cases h
      exact Res.val (by simp only [execOp, hop]) (rangeS_ok hW hu (hs ▸ hx))
    · cases h
  · rename_i hu
    simp only [Option.bind_eq_some_iff, Option.some.injEq] at hc
    obtain ⟨x', hx', rfl⟩ := hc
    exact Res.val (by simp only [execOp, hop]) (rangeM_ok hW hu (arg_rel hT hG hx') h)
  · cases hc
theorem op_next {x : Operand} {b : Bool} (hop : o.op = .next x b) : Res P σ A W ((execOp a.eval o).run P W) v A' := by
  cases b with
  | true =>
    simp only [compO, hop, Option.bind_eq_bind, Option.pure_def, Option.bind_eq_some_iff, Option.some.injEq] at hc
    obtain ⟨x', hx', rfl⟩ := hc
    exact Res.val (by simp only [execOp, hop]) (nexts_ok (ty := o.type) hW (arg_rel hT hG hx') h)
  | false =>
    simp only [compO, hop, Option.bind_eq_bind, Option.pure_def, Option.bind_eq_some_iff, Option.some.injEq] at hc
    obtain ⟨x', hx', rfl⟩ := hc
    exact Res.val (by simp only [execOp, hop]) (nextm_ok (ty := o.type) hW (arg_rel hT hG hx') h)
theorem op_entry {x : Operand} (hop : o.op = .entry x) : Res P σ A W ((execOp a.eval o).run P W) v A' := by
  simp only [compO, hop, Option.bind_eq_bind, Option.pure_def, Option.bind_eq_some_iff, Option.some.injEq] at hc
  obtain ⟨x', hx', rfl⟩ := hc
  exact Res.val (by simp only [execOp, hop]) (entry_ok hW (arg_rel hT hG hx') h)
theorem op_tassert {x : Operand} {xt t : TypeId} {ok : Bool} (hop : o.op = .typeAssert x xt t ok) : Res P σ A W ((execOp a.eval o).run P W) v A' := by
  simp only [compO, hop, Option.bind_eq_bind, Option.pure_def, Option.bind_eq_some_iff, Option.some.injEq] at hc
  split at hc
  · cases hc
  · rename_i td hn hu
    simp only [Option.bind_eq_some_iff, Option.some.injEq] at hc
    obtain ⟨z, hz, y, hy, rfl⟩ := hc
    exact Res.val (by simp only [execOp, hop]) (tassert_ok (xt := xt) hW hu (fun m hm => hn m hm) hz (arg_rel hT hG hy) h)
  · cases hc
theorem op_extract {x : Operand} {k : Nat} (hop : o.op = .extract x k) : Res P σ A W ((execOp a.eval o).run P W) v A' := by
  simp only [compO, hop, Option.bind_eq_bind, Option.pure_def, Option.bind_eq_some_iff, Option.some.injEq] at hc
  obtain ⟨x', hx', rfl⟩ := hc
  exact Res.val (by simp only [execOp, hop]) (extract_ok hW (arg_rel hT hG hx') h)
end
end Go.AE
namespace Go.AE
variable {P : Program} {σ : Sg} {A A' : AW} {W : World} {T : TM} {a : Act} {v : AV} {o : Oper} {i : IOp}
section
variable (hW : WRel P σ A W) (hT : TRel σ T a.tmps) (hG : GRel P σ) (hc : compO P o = some i) (h : iop T A i = some (v, A'))
include hW hT hG hc h
theorem op_conv {s d : TypeId} {x : Operand} (hop : o.op = .convert s d x) : Res P σ A W ((execOp a.eval o).run P W) v A' := by
  simp only [compO, hop, Option.bind_eq_bind, Option.pure_def, Option.bind_eq_some_iff, Option.some.injEq] at hc
  split at hc
  · rename_i k0 k hs hd
    obtain ⟨y, hy, rfl⟩ := (by simpa only [Option.bind_eq_some_iff, Option.some.injEq] using hc : ∃ y, argOf P x = some y ∧ IOp.conv k y = i)
    exact Res.val (by simp only [execOp, hop]) (conv_ok hW hs hd (arg_rel hT hG hy) h)
  · rename_i hs hd
    obtain ⟨y, hy, rfl⟩ := (by simpa only [Option.bind_eq_some_iff, Option.some.injEq] using hc : ∃ y, argOf P x = some y ∧ IOp.mos y = i)
    have hx := arg_rel hT hG hy
    simp only [iop] at h
    split at h
    · rename_i l hl
      cases h
      rw [hl] at hx
      have hx' := hx
      simp only [VRel] at hx
      obtain ⟨u, hu, _⟩ := hx
      refine Res.val (s := convert s d (a.eval x)) (by simp only [execOp, hop]) ⟨σ, a.eval x, W, ?_, hx', .refl hW⟩
      rw [hu]
      simp [convert, underlying_run hs, underlying_run hd]
    · cases h
  · rename_i e hs hd
    split at hc
    · rename_i he
      have he := isU8_eq he
      obtain ⟨y, hy, rfl⟩ := (by simpa only [Option.bind_eq_some_iff, Option.some.injEq] using hc : ∃ y, argOf P x = some y ∧ IOp.s2b e y = i)
      have hx := arg_rel hT hG hy
      simp only [iop] at h
      split at h
      · rename_i l hl
        cases h
        obtain ⟨u, hu, hr⟩ := s2b_ok (e := e) hW (hl ▸ hx)
        refine Res.val (s := convert s d (a.eval x)) (by simp only [execOp, hop]) ?_
        have : (convert s d (a.eval x)).run P W = (Conv.stringToBytes e u).run P W := by
          rw [hu]
          simp [convert, underlying_run hs, underlying_run hd, underlying_run he]
        rw [this]
        exact hr
      · cases h
    · cases hc
  · rename_i e hs hd
    split at hc
    · rename_i he
      have he := isU8_eq he
      obtain ⟨y, hy, rfl⟩ := (by simpa only [Option.bind_eq_some_iff, Option.some.injEq] using hc : ∃ y, argOf P x = some y ∧ IOp.b2s y = i)
      have hx := arg_rel hT hG hy
      have hcv : ∀ q l c, a.eval x = .slice q l c → (convert s d (a.eval x)).run P W = (Conv.bytesToString (a.eval x)).run P W := by
        intro q l c hq
        rw [hq]
        simp [convert, underlying_run hs, underlying_run hd, underlying_run he]
      refine Res.val (s := convert s d (a.eval x)) (by simp only [execOp, hop]) ?_
      simp only [iop] at h
      split at h
      · rename_i hb
        cases h
        rw [hb] at hx
        simp only [VRel] at hx
        rw [hcv _ _ _ hx, hx]
        exact ⟨σ, .string .empty, W, rfl, by simp only [VRel]; exact ⟨_, rfl, rfl⟩, .refl hW⟩
      · rename_i hb
        cases h
        rw [hb] at hx
        simp only [VRel] at hx
        obtain ⟨q, c, hx⟩ := hx
        rw [hcv _ _ _ hx, hx]
        refine ⟨σ, .string .empty, W, ?_, by simp only [VRel]; exact ⟨_, rfl, rfl⟩, .refl hW⟩
        simp [Conv.bytesToString, loadCells, loadCellsFrom]
      · rename_i p off len c hb
        split at h
        · rename_i l et g z ho
          split at h
          · rename_i vs hv
            split at h
            · rename_i bs hbs
              cases h
              obtain ⟨e1, cc, he1, hx1⟩ := slice_addr (hb ▸ hx)
              rw [hcv _ _ _ hx1]
              exact b2s_ok hW (hb ▸ hx) ho hv hbs
            · cases h
          · cases h
        · cases h
      · cases h
    · cases hc
  · rename_i k0 hs hd
    obtain ⟨y, hy, rfl⟩ := (by simpa only [Option.bind_eq_some_iff, Option.some.injEq] using hc : ∃ y, argOf P x = some y ∧ IOp.i2s y = i)
    exact Res.val (by simp only [execOp, hop]) (i2s_ok hW hs hd (arg_rel hT hG hy) h)
  · rename_i t hs hd
    simp only [Option.bind_eq_some_iff] at hc
    obtain ⟨n, hn, hc⟩ := hc
    split at hc
    · cases hc
    · rename_i hn0
      obtain ⟨y, hy, rfl⟩ := (by simpa only [Option.bind_eq_some_iff, Option.some.injEq] using hc : ∃ y, argOf P x = some y ∧ IOp.up2 y = i)
      exact Res.val (by simp only [execOp, hop]) (up2_ok hW hs hd hn hn0 (arg_rel hT hG hy) h)
  · rename_i u hs hd
    simp only [Option.bind_eq_some_iff] at hc
    obtain ⟨n, hn, hc⟩ := hc
    split at hc
    · cases hc
    · rename_i hn0
      obtain ⟨y, hy, rfl⟩ := (by simpa only [Option.bind_eq_some_iff, Option.some.injEq] using hc : ∃ y, argOf P x = some y ∧ IOp.p2u u n y = i)
      exact Res.val (by simp only [execOp, hop]) (p2u_ok hW hs hd hn hn0 (arg_rel hT hG hy) h)
  · rename_i hs hd
    obtain ⟨y, hy, rfl⟩ := (by simpa only [Option.bind_eq_some_iff, Option.some.injEq] using hc : ∃ y, argOf P x = some y ∧ IOp.mop y = i)
    have hx := arg_rel hT hG hy
    have key : ∀ q, a.eval x = .pointer q → ResV P σ A W ((convert s d (a.eval x)).run P W) (y.ev T) A := by
      intro q hq
      refine ⟨σ, a.eval x, W, ?_, hx, .refl hW⟩
      rw [hq]
      simp [convert, underlying_run hs, underlying_run hd, Conv.unsafePointer]
    refine Res.val (s := convert s d (a.eval x)) (by simp only [execOp, hop]) ?_
    simp only [iop] at h
    split at h
    · rename_i hb
      cases h
      have hx1 := hx
      rw [hb] at hx1; simp only [VRel] at hx1
      rw [← hb]
      exact key _ hx1
    · rename_i p off hb
      cases h
      have hx1 := hx
      rw [hb] at hx1; simp only [VRel] at hx1
      obtain ⟨e, _, hx1⟩ := hx1
      rw [← hb]
      exact key _ hx1
    · cases h
  · cases hc
end
end Go.AE
namespace Go.AE
variable {P : Program} {σ : Sg} {A A' : AW} {W : World} {T : TM} {a : Act} {v : AV} {o : Oper} {i : IOp}
theorem eqGuardType_agg {t : TypeId} {op : BinOp} {x y : Operand} {cs ds : Array Value} (h : P.eqGuardType P.depth t = false) (w : World) : (eqGuard op t x y (.agg cs) (.agg ds)).run P w = .ok () w := run_eqGuard_agg (w := w) op t x y cs ds h
theorem eqlike_run {t : TypeId} {u w : Value} {b : Bool} (hn : ∀ k n, u ≠ .int k n) (hs : ∀ s, u ≠ .string s) (hf : ∀ k n, u ≠ .float k n) (hcx : ∀ k n m, u ≠ .complex k n m) (h : (Op.equalIn 10000 t u w).run P W = .ok b W) :
    (binOp .eql t u w).run P W = .ok (.bool b) W ∧ (binOp .neq t u w).run P W = .ok (.bool !b) W := by
  have h' : (Op.equal t u w).run P W = .ok b W := h
  constructor
  · cases u <;> first | exact absurd rfl (hn _ _) | exact absurd rfl (hs _) | exact absurd rfl (hf _ _) | exact absurd rfl (hcx _ _ _) | simp [binOp, h']
  · cases u <;> first | exact absurd rfl (hn _ _) | exact absurd rfl (hs _) | exact absurd rfl (hf _ _) | exact absurd rfl (hcx _ _ _) | simp [binOp, h']
section
variable (hW : WRel P σ A W) (hT : TRel σ T a.tmps) (hG : GRel P σ) (hc : compO P o = some i) (h : iop T A i = some (v, A'))
include hW hT hG hc h

omit hW hT hG hc h in
theorem eqV_shape {k : EqK} {c : Bool} {x y : AV} {u w : Value} {r : Bool} (hx : VRel σ x u) (hy : VRel σ y w) (h : eqV k c x y = some r) :
    (u = .nilIface → w = .nilIface → c = true) ∧ (∀ p q, u = .agg p → w ≠ .agg q) ∧ (∀ k n, u ≠ .int k n) ∧ (∀ s, u ≠ .string s) ∧ (∀ k n, u ≠ .float k n) ∧ (∀ k n m, u ≠ .complex k n m) := by
  unfold eqV at h
  split at h <;> first | (cases h; done) | skip
  all_goals simp only [VRel] at hx hy
  all_goals first
    | (subst hx hy; simp; done)
    | (obtain ⟨_, _, rfl⟩ := hx; subst hy; simp; done)
    | (obtain ⟨_, _, rfl⟩ := hy; subst hx; simp; done)
    | (obtain ⟨_, rfl, _⟩ := hx; subst hy; simp; done)
    | (obtain ⟨_, rfl, _⟩ := hy; subst hx; simp; done)
    | (obtain ⟨_, _, rfl⟩ := hx; obtain ⟨_, _, rfl⟩ := hy; simp; done)
    | (obtain ⟨_, _, rfl, _⟩ := hx; subst hy; simp; done)
    | (obtain ⟨_, _, rfl, _⟩ := hy; subst hx; simp; done)
    | skip
  · subst hx hy
    split at h
    · rename_i hc; subst hc; simp
    · cases h
  · obtain ⟨_, _, _, rfl⟩ := slice_addr hy
    subst hx; simp
  · obtain ⟨_, _, _, rfl⟩ := slice_addr hx
    subst hy; simp

theorem op_bin {op : BinOp} {t yt : TypeId} {x y : Operand} (hop : o.op = .binOp op t x y yt) : Res P σ A W ((execOp a.eval o).run P W) v A' := by
  simp only [compO, hop, Option.bind_eq_bind, Option.pure_def, Option.bind_eq_some_iff, Option.some.injEq] at hc
  have hint : ∀ x' y', argOf P x = some x' → argOf P y = some y' → iop T A (.bin op x' y') = some (v, A') → Res P σ A W ((execOp a.eval o).run P W) v A' := by
    intro x' y' hx' hy' h
    have hx := arg_rel hT hG hx'
    have hy := arg_rel hT hG hy'
    simp only [iop] at h
    split at h
    · rename_i k1 n1 k2 n2 e1 e2
      split at h
      · rename_i hk
        split at h
        · rename_i w hw
          cases h
          obtain ⟨cv, hcv, hr⟩ := intBin_ok (t := t) hk hw
          rw [e1] at hx; rw [e2] at hy
          simp only [VRel] at hx hy
          have hgd := eqGuard_other (P := P) (op := op) (t := t) (x := x) (y := y) (a := a.eval x) (b := a.eval y) (by rw [hx]; simp) (by rw [hx]; simp) W
          refine Res.val (s := (do eqGuard op t x y (a.eval x) (a.eval y); binOp op t (a.eval x) (a.eval y))) (by simp only [execOp, hop]) ⟨σ, cv, W, ?_, hr σ, .refl hW⟩
          simp only [Sem.run_bind, hgd, Result.andThen_ok]
          rw [hx, hy, hcv]
          rfl
        · cases h
      · cases h
    · rename_i s1 s2 e1 e2
      split at h
      · rename_i w hw
        cases h
        have hx1 := hx
        have hy1 := hy
        rw [e1] at hx1; rw [e2] at hy1
        obtain ⟨cv, hcv, hr⟩ := strBin_ok (t := t) hx1 hy1 hw
        simp only [VRel] at hx1
        obtain ⟨u, hx1, _⟩ := hx1
        have hgd := eqGuard_other (P := P) (op := op) (t := t) (x := x) (y := y) (a := a.eval x) (b := a.eval y) (by rw [hx1]; simp) (by rw [hx1]; simp) W
        refine Res.val (s := (do eqGuard op t x y (a.eval x) (a.eval y); binOp op t (a.eval x) (a.eval y))) (by simp only [execOp, hop]) ⟨σ, cv, W, ?_, hr, .refl hW⟩
        simp only [Sem.run_bind, hgd, Result.andThen_ok]
        rw [hcv]
        rfl
      · cases h
    · cases h
  split at hc
  · obtain ⟨x', hx', y', hy', rfl⟩ := (by simpa only [Option.bind_eq_some_iff, Option.some.injEq] using hc : ∃ u, argOf P x = some u ∧ ∃ w, argOf P y = some w ∧ IOp.bin op u w = i)
    exact hint _ _ hx' hy' h
  · obtain ⟨x', hx', y', hy', rfl⟩ := (by simpa only [Option.bind_eq_some_iff, Option.some.injEq] using hc : ∃ u, argOf P x = some u ∧ ∃ w, argOf P y = some w ∧ IOp.bin op u w = i)
    exact hint _ _ hx' hy' h
  · rename_i fs hu
    split at hc
    · rename_i ks hks
      split at hc
      · cases hc
      · rename_i hg
        split at hc
        · obtain ⟨x', hx', y', hy', rfl⟩ := (by simpa only [Option.bind_eq_some_iff, Option.some.injEq] using hc : ∃ u, argOf P x = some u ∧ ∃ w, argOf P y = some w ∧ IOp.eqagg ks false u w = i)
          have hx := arg_rel hT hG hx'
          have hy := arg_rel hT hG hy'
          simp only [iop] at h
          split at h
          · rename_i xs ys e1 e2
            split at h
            · rename_i b hb
              cases h
              rw [e1] at hx; rw [e2] at hy
              simp only [VRel] at hx hy
              obtain ⟨cs, hcs, hcr⟩ := hx
              obtain ⟨ds, hds, hdr⟩ := hy
              have he := plainT_ok 4 t ks hks 10000 xs ys (.agg cs) (.agg ds) b W (by omega) (by unfold VT; rw [hu]; exact ⟨cs, rfl, hcr⟩) (by unfold VT; rw [hu]; exact ⟨ds, rfl, hdr⟩) hb
              obtain ⟨r1, r2⟩ := eqlike_run (W := W) (by simp) (by simp) (by simp) (by simp) he
              have hgd := eqGuardType_agg (P := P) (op := .eql) (x := x) (y := y) (cs := cs) (ds := ds) (Bool.eq_false_iff.2 hg) W
              refine Res.val (s := (do eqGuard .eql t x y (a.eval x) (a.eval y); binOp .eql t (a.eval x) (a.eval y))) (by simp only [execOp, hop]) ⟨σ, .bool b, W, ?_, by simp [VRel], .refl hW⟩
              simp only [Sem.run_bind, hcs, hds, hgd, Result.andThen_ok, r1]
            · cases h
          · cases h
        · obtain ⟨x', hx', y', hy', rfl⟩ := (by simpa only [Option.bind_eq_some_iff, Option.some.injEq] using hc : ∃ u, argOf P x = some u ∧ ∃ w, argOf P y = some w ∧ IOp.eqagg ks true u w = i)
          have hx := arg_rel hT hG hx'
          have hy := arg_rel hT hG hy'
          simp only [iop] at h
          split at h
          · rename_i xs ys e1 e2
            split at h
            · rename_i b hb
              cases h
              rw [e1] at hx; rw [e2] at hy
              simp only [VRel] at hx hy
              obtain ⟨cs, hcs, hcr⟩ := hx
              obtain ⟨ds, hds, hdr⟩ := hy
              have he := plainT_ok 4 t ks hks 10000 xs ys (.agg cs) (.agg ds) b W (by omega) (by unfold VT; rw [hu]; exact ⟨cs, rfl, hcr⟩) (by unfold VT; rw [hu]; exact ⟨ds, rfl, hdr⟩) hb
              obtain ⟨r1, r2⟩ := eqlike_run (W := W) (by simp) (by simp) (by simp) (by simp) he
              have hgd := eqGuardType_agg (P := P) (op := .neq) (x := x) (y := y) (cs := cs) (ds := ds) (Bool.eq_false_iff.2 hg) W
              refine Res.val (s := (do eqGuard .neq t x y (a.eval x) (a.eval y); binOp .neq t (a.eval x) (a.eval y))) (by simp only [execOp, hop]) ⟨σ, .bool (!b), W, ?_, by simp [VRel], .refl hW⟩
              simp only [Sem.run_bind, hcs, hds, hgd, Result.andThen_ok, r2]
            · cases h
          · cases h
        · cases hc
    · cases hc
  · rename_i d _ _ _ hu
    split at hc
    · rename_i k hk
      obtain ⟨x', hx', y', hy', rfl⟩ := (by simpa only [Option.bind_eq_some_iff, Option.some.injEq] using hc : ∃ u, argOf P x = some u ∧ ∃ w, argOf P y = some w ∧ IOp.eqv k false (isC x || isC y) u w = i)
      have hx := arg_rel hT hG hx'
      have hy := arg_rel hT hG hy'
      simp only [iop] at h
      split at h
      · rename_i b hb
        cases h
        obtain ⟨g1, g2, g3⟩ := eqV_shape hx hy hb
        have he := eqV_ok (d := 9999) hu hk hx hy hb W
        have hgd := eqGuard_other (P := P) (op := .eql) (t := t) (x := x) (y := y) (fun q1 q2 => by have := g1 q1 q2; simpa using this) g2 W
        obtain ⟨r1, r2⟩ := eqlike_run (W := W) g3.1 g3.2.1 g3.2.2.1 g3.2.2.2 he
        refine Res.val (s := (do eqGuard .eql t x y (a.eval x) (a.eval y); binOp .eql t (a.eval x) (a.eval y))) (by simp only [execOp, hop]) ⟨σ, .bool b, W, ?_, by simp [VRel], .refl hW⟩
        simp only [Sem.run_bind, hgd, Result.andThen_ok, r1]
      · cases h
    · rename_i k hk
      obtain ⟨x', hx', y', hy', rfl⟩ := (by simpa only [Option.bind_eq_some_iff, Option.some.injEq] using hc : ∃ u, argOf P x = some u ∧ ∃ w, argOf P y = some w ∧ IOp.eqv k true (isC x || isC y) u w = i)
      have hx := arg_rel hT hG hx'
      have hy := arg_rel hT hG hy'
      simp only [iop] at h
      split at h
      · rename_i b hb
        cases h
        obtain ⟨g1, g2, g3⟩ := eqV_shape hx hy hb
        have he := eqV_ok (d := 9999) hu hk hx hy hb W
        have hgd := eqGuard_other (P := P) (op := .neq) (t := t) (x := x) (y := y) (fun q1 q2 => by have := g1 q1 q2; simpa using this) g2 W
        obtain ⟨r1, r2⟩ := eqlike_run (W := W) g3.1 g3.2.1 g3.2.2.1 g3.2.2.2 he
        refine Res.val (s := (do eqGuard .neq t x y (a.eval x) (a.eval y); binOp .neq t (a.eval x) (a.eval y))) (by simp only [execOp, hop]) ⟨σ, .bool (!b), W, ?_, by simp [VRel], .refl hW⟩
        simp only [Sem.run_bind, hgd, Result.andThen_ok, r2]
      · cases h
    · cases hc
  · cases hc
theorem op_call {c : Call} (hop : o.op = .call c) : Res P σ A W ((execOp a.eval o).run P W) v A' := by
  simp only [compO, hop, Option.bind_eq_bind, Option.pure_def, Option.bind_eq_some_iff, Option.some.injEq] at hc
  split at hc
  · rename_i b hcal
    have key : ∀ (xs : List Operand), c.args.toList = xs → ∀ s : Sem Value, builtin b c.argTypes o.type (c.args.map fun | .const _ => true | _ => false) (xs.map a.eval).toArray = (do Pure.pure (Next.value (← s))) → ResV P σ A W (s.run P W) v A' → Res P σ A W ((execOp a.eval o).run P W) v A' := by
      intro xs hxs s hs hr
      have he : execOp a.eval o = (do Pure.pure (Next.value (← s))) := by
        rw [← hs]
        have hargs : c.args.map a.eval = (xs.map a.eval).toArray := by
          rw [← hxs]; apply Array.ext'; simp
        simp only [execOp, hop, resolve, hcal, hargs]
        rfl
      exact Res.val he hr
    split at hc
    · rename_i x hargs
      split at hc
      · rename_i hu
        obtain ⟨x', hx', rfl⟩ := (by simpa only [Option.bind_eq_some_iff, Option.some.injEq] using hc : ∃ u, argOf P x = some u ∧ IOp.len .b u = i)
        obtain ⟨t, ht, hu⟩ := Option.bind_eq_some_iff.1 hu
        exact key [x] hargs _ rfl (len_ok hW ht hu (.inl ⟨rfl, rfl⟩) (arg_rel hT hG hx') h)
      · rename_i e hu
        obtain ⟨x', hx', rfl⟩ := (by simpa only [Option.bind_eq_some_iff, Option.some.injEq] using hc : ∃ u, argOf P x = some u ∧ IOp.len .s u = i)
        obtain ⟨t, ht, hu⟩ := Option.bind_eq_some_iff.1 hu
        exact key [x] hargs _ rfl (len_ok hW ht hu (.inr (.inl ⟨e, rfl, rfl⟩)) (arg_rel hT hG hx') h)
      · rename_i k e hu
        obtain ⟨x', hx', rfl⟩ := (by simpa only [Option.bind_eq_some_iff, Option.some.injEq] using hc : ∃ u, argOf P x = some u ∧ IOp.len .m u = i)
        obtain ⟨t, ht, hu⟩ := Option.bind_eq_some_iff.1 hu
        exact key [x] hargs _ rfl (len_ok hW ht hu (.inr (.inr ⟨k, e, rfl, rfl⟩)) (arg_rel hT hG hx') h)
      · cases hc
    · rename_i x hargs
      split at hc
      · rename_i e hu
        obtain ⟨x', hx', rfl⟩ := (by simpa only [Option.bind_eq_some_iff, Option.some.injEq] using hc : ∃ u, argOf P x = some u ∧ IOp.cap u = i)
        obtain ⟨t, ht, hu⟩ := Option.bind_eq_some_iff.1 hu
        exact key [x] hargs _ rfl (cap_ok hW ht hu (arg_rel hT hG hx') h)
      · cases hc
    · rename_i x y hargs
      split at hc
      · rename_i e d hu hd
        split at hc
        · cases hc
        · rename_i hni
          simp only [Bool.false_eq_true, if_false, Option.bind_eq_some_iff] at hc
          obtain ⟨n, hn, z, hz, ti, hti, hc⟩ := hc
          split at hc
          · cases hc
          · rename_i hbad
            obtain ⟨x', hx', y', hy', rfl⟩ := (by simpa only [Option.bind_eq_some_iff, Option.some.injEq] using hc : ∃ u, argOf P x = some u ∧ ∃ w, argOf P y = some w ∧ IOp.append e n u w = i)
            obtain ⟨t, ht, hu⟩ := Option.bind_eq_some_iff.1 hu
            obtain ⟨td, htd, hd⟩ := Option.bind_eq_some_iff.1 hd
            simp only [iop] at h
            split at h
            · rename_i new k hsrc
              have e1 : n ≠ 0 := fun q => hbad (Or.inl q)
              have e2 : z.cells.length = n := Classical.byContradiction fun q => hbad (Or.inr (Or.inl q))
              have e3 : ti.bytes ≤ 2 ^ 14 := Classical.byContradiction fun q => hbad (Or.inr (Or.inr (by omega)))
              exact key [x, y] hargs _ rfl (append_ok hW ht htd hu hd (fun k hk => hni k hk) hn e1 hti hz e2 e3 (arg_rel hT hG hx') (arg_rel hT hG hy') hsrc h)
            · cases h
      · cases hc
    · rename_i x y hargs
      split at hc
      · rename_i e hu
        simp only [Option.bind_eq_some_iff] at hc
        obtain ⟨n, hn, hc⟩ := hc
        split at hc
        · cases hc
        · rename_i hn0
          obtain ⟨x', hx', y', hy', rfl⟩ := (by simpa only [Option.bind_eq_some_iff, Option.some.injEq] using hc : ∃ u, argOf P x = some u ∧ ∃ w, argOf P y = some w ∧ IOp.copy n u w = i)
          obtain ⟨t, ht, hu⟩ := Option.bind_eq_some_iff.1 hu
          exact key [x, y] hargs _ rfl (copy_ok hW ht hu hn hn0 (arg_rel hT hG hx') (arg_rel hT hG hy') h)
      · cases hc
    · rename_i x y hargs
      split at hc
      · rename_i q e hu
        simp only [Option.bind_eq_some_iff, Option.some.injEq] at hc
        obtain ⟨kk, hkk, x', hx', y', hy', rfl⟩ := hc
        obtain ⟨t, ht, hu⟩ := Option.bind_eq_some_iff.1 hu
        exact key [x, y] hargs _ rfl (del_ok hW ht hu hkk (arg_rel hT hG hx') (arg_rel hT hG hy') h)
      · cases hc
    · rename_i x hargs
      split at hc
      · rename_i q e hu
        obtain ⟨x', hx', rfl⟩ := (by simpa only [Option.bind_eq_some_iff, Option.some.injEq] using hc : ∃ u, argOf P x = some u ∧ IOp.clearm u = i)
        obtain ⟨t, ht, hu⟩ := Option.bind_eq_some_iff.1 hu
        exact key [x] hargs _ rfl (clearm_ok hW ht hu (arg_rel hT hG hx') h)
      · cases hc
    · rename_i x y hargs
      obtain ⟨x', hx', y', hy', rfl⟩ := (by simpa only [Option.bind_eq_some_iff, Option.some.injEq] using hc : ∃ u, argOf P x = some u ∧ ∃ w, argOf P y = some w ∧ IOp.maxmin true [u, w] = i)
      exact key [x, y] hargs _ rfl (maxmin_ok (at_ := c.argTypes) (ty := o.type) (mx := true) hW (arg_rel hT hG hx') (arg_rel hT hG hy') h)
    · rename_i x y hargs
      obtain ⟨x', hx', y', hy', rfl⟩ := (by simpa only [Option.bind_eq_some_iff, Option.some.injEq] using hc : ∃ u, argOf P x = some u ∧ ∃ w, argOf P y = some w ∧ IOp.maxmin false [u, w] = i)
      exact key [x, y] hargs _ rfl (maxmin_ok (at_ := c.argTypes) (ty := o.type) (mx := false) hW (arg_rel hT hG hx') (arg_rel hT hG hy') h)
    · rename_i x y hargs
      split at hc
      · rename_i e hu
        split at hc
        · rename_i hs
          obtain ⟨x', hx', y', hy', rfl⟩ := (by simpa only [Option.bind_eq_some_iff, Option.some.injEq] using hc : ∃ u, argOf P x = some u ∧ ∃ w, argOf P y = some w ∧ IOp.ustr e u w = i)
          obtain ⟨t, ht, hu⟩ := Option.bind_eq_some_iff.1 hu
          exact key [x, y] hargs _ rfl (ustr_ok hW ht hu hs (arg_rel hT hG hx') (arg_rel hT hG hy') h)
        · cases hc
      · cases hc
    · rename_i x hargs
      obtain ⟨x', hx', rfl⟩ := (by simpa only [Option.bind_eq_some_iff, Option.some.injEq] using hc : ∃ u, argOf P x = some u ∧ IOp.usd u = i)
      exact key [x] hargs _ rfl (usd_ok (at_ := c.argTypes) (ty := o.type) hW (arg_rel hT hG hx') h)
    · cases hc
  · simp only [Option.bind_eq_some_iff, Option.some.injEq] at hc
    obtain ⟨ys, _, rfl⟩ := hc
    simp [iop] at h
  · simp only [Option.bind_eq_some_iff, Option.some.injEq] at hc
    obtain ⟨x', _, ys, _, rfl⟩ := hc
    simp [iop] at h
  · simp only [Option.bind_eq_some_iff, Option.some.injEq] at hc
    obtain ⟨x', _, ys, _, rfl⟩ := hc
    simp [iop] at h
/-- each operation that calls nothing comes out as the evaluator says -/
theorem op_ok : Res P σ A W ((execOp a.eval o).run P W) v A' := by
  cases hop : o.op with
  | move x => exact op_mov hW hT hG hc h (.inl hop)
  | assign x => exact op_mov hW hT hG hc h (.inr hop)
  | pick c x y => exact op_pick hW hT hG hc h hop
  | alloc e => exact op_alloc hW hT hG hc h hop
  | box e x => exact op_box hW hT hG hc h hop
  | build t ps => exact op_build hW hT hG hc h hop
  | buildSlice t l ps => exact op_bslice hW hT hG hc h hop
  | load t x => exact op_load hW hT hG hc h hop
  | store t x y => exact op_store hW hT hG hc h hop
  | nilCheck x => exact op_nilck hW hT hG hc h hop
  | binOp op t x y yt => exact op_bin hW hT hG hc h hop
  | unOp op t x => exact op_unop hW hT hG hc h hop
  | convert s d x => exact op_conv hW hT hG hc h hop
  | makeInterface t x => exact op_mkif hW hT hG hc h hop
  | makeFunc f x y => exact op_mkfn hW hT hG hc h hop
  | makeMap t r => exact op_mkmap hW hT hG hc h hop
  | makeSlice t l c => exact op_mkslice hW hT hG hc h hop
  | slice t x lo hi mx => exact op_slice hW hT hG hc h hop
  | fieldAddr s x k => exact op_faddr hW hT hG hc h hop
  | field t x k => exact op_field hW hT hG hc h hop
  | indexAddr t x ix => exact op_iaddr hW hT hG hc h hop
  | index t x ix => exact op_index hW hT hG hc h hop
  | lookup t m k ok => exact op_lookup hW hT hG hc h hop
  | mapUpdate t m k x => exact op_mupd hW hT hG hc h (.inl hop)
  | insert t m k x => exact op_mupd hW hT hG hc h (.inr hop)
  | mapEntry t m k => exact op_mentry hW hT hG hc h hop
  | entryStore t m s x => exact op_estore hW hT hG hc h hop
  | range t x => exact op_range hW hT hG hc h hop
  | next x b => exact op_next hW hT hG hc h hop
  | entry x => exact op_entry hW hT hG hc h hop
  | typeAssert x xt t ok => exact op_tassert hW hT hG hc h hop
  | extract x k => exact op_extract hW hT hG hc h hop
  | call c => exact op_call hW hT hG hc h hop
  | _ => simp [compO, hop] at hc
end
end Go.AE
namespace Go.AE
variable {P : Program} {F : Tr IFn} {E : ICode → TM → AW → Option AR}
/-- what a call that has been entered comes to -/
def After (P : Program) (σ : Sg) (A : AW) (W : World) (v : AV) (A' : AW) : Ending → World → Prop := fun e w' =>
  ∃ cv σ', e = .returned cv ∧ VRel σ' v cv ∧ Step P σ A W σ' A' w'
/-- an operation comes out as the evaluator says, be it at once, be it behind a call -/
def NRes (P : Program) (σ : Sg) (A : AW) (W : World) (r : Result Next) (v : AV) (A' : AW) : Prop :=
  Res P σ A W r v A' ∨ ∃ f args, r = .ok (.enter f args) W ∧ Calls P f args W (After P σ A W v A')
/-- the functions' table says what the program has -/
structure FRel (P : Program) (F : Tr IFn) : Prop where
  go : ∀ f np res body, F.get (Ix.ofTmp f) = some (.go np res body) → ∃ fn c, P.funcs[f]? = some fn ∧ fn.name ≠ "runtime.NumGoroutine" ∧ fn.body = some c ∧ compC P c = body ∧
    fn.results.toList.mapM (resOf P) = some res ∧ np ≤ fn.ntmps ∧ ∀ d, d ∈ dstsN c → d < fn.ntmps
  ext : ∀ f e, F.get (Ix.ofTmp f) = some (.ext e) → ∀ args vals σ A W v A', extRun e args A = some (v, A') → WRel P σ A W → GRel P σ → VRels σ args vals.toList → NRes P σ A W ((callFunc f vals).run P W) v A'
/-- where code comes out -/
def exitOf : AX → Exit
  | .normal => .normal
  | .exit id => .exit id
  | .goto l => .goto l
  | .ret => .ret
def Post (P : Program) (σ : Sg) (A : AW) (W : World) (ds : List Nat) (a : Act) (r : AR) : Exit → Act → World → Prop := fun e a' w' =>
  e = exitOf r.x ∧ a'.defers = [] ∧ a'.tmps.size = a.tmps.size ∧ (∀ t, t ∉ ds → a'.tmps.getD t undef = a.tmps.getD t undef) ∧ ∃ σ', Step P σ A W σ' r.A w' ∧ TRel σ' r.T a'.tmps
/-- the evaluator of code is sound -/
structure Sound (P : Program) (E : ICode → TM → AW → Option AR) : Prop where
  code : ∀ c T A r, E (compC P c) T A = some r → ∀ σ (a : Act) W, WRel P σ A W → TRel σ T a.tmps → GRel P σ → a.defers = [] → (∀ d, d ∈ dstsN c → d < a.tmps.size) → c.wp P (Post P σ A W (dstsN c) a r) a W
  again : ∀ c T A r, E (compC P (.loop c)) T A = some r → ∀ σ (a : Act) W, WRel P σ A W → TRel σ T a.tmps → GRel P σ → a.defers = [] → (∀ d, d ∈ dstsN c → d < a.tmps.size) →
    ∀ (fr : Frame) (k : List Item) (cs : List Frame), ∃ e a' w', Post P σ A W (dstsN c) a r e a' w' ∧ Arrives P (lone (fr.at a (.inLoop c :: k)) cs W) fr k cs e a' w'
  within : ∀ c b T A r, E (.inscope (compC P c) (compC P b)) T A = some r → ∀ σ (a : Act) W, WRel P σ A W → TRel σ T a.tmps → GRel P σ → a.defers = [] → (∀ d, d ∈ dstsN c → d < a.tmps.size) → (∀ d, d ∈ dstsN b → d < a.tmps.size) →
    ∀ (fr : Frame) (k : List Item) (cs : List Frame), ∃ e a' w', Post P σ A W (dstsN c ++ dstsN b) a r e a' w' ∧ Arrives P (lone (fr.at a (.code c :: .inScope b :: k)) cs W) fr k cs e a' w'

theorem GRel.step {σ σ' : Sg} {A A' : AW} {W W' : World} (h : GRel P σ) (s : Step P σ A W σ' A' W') : GRel P σ' := h.mono s.le

theorem ofTmp_at_set (T : TM) (v : AV) (d t : Nat) : TM.at_ (Tr.set v T (Ix.ofTmp d)) (Ix.ofTmp t) = if d = t then v else TM.at_ T (Ix.ofTmp t) := by
  by_cases h : d = t
  · subst h; simp [TM.at_, Tr.get_set_same]
  · rw [if_neg h]
    simp only [TM.at_]
    rw [Tr.get_set_other _ _ _ _ (fun e => h (Ix.ofTmp_inj e).symm)]
theorem TRel.put {σ : Sg} {T : TM} {a : Act} (h : TRel σ T a.tmps) {d : Option Tmp} (hd : ∀ t, d = some t → t < a.tmps.size) {v : AV} {cv : Value} (hv : VRel σ v cv) :
    TRel σ (putD T (d.map Ix.ofTmp) v) (a.put d cv).tmps := by
  cases d with
  | none => exact h
  | some d =>
    have hlt := hd d rfl
    intro t
    simp only [Option.map_some, putD, Act.put]
    rw [ofTmp_at_set]
    by_cases hdt : d = t
    · subst hdt
      rw [if_pos rfl]
      simp [hlt, hv]
    · rw [if_neg hdt]
      have : (a.tmps.setIfInBounds d cv).getD t undef = a.tmps.getD t undef := by
        simp [Array.getElem?_setIfInBounds_ne hdt]
      rw [this]; exact h t
theorem put_size (a : Act) (d : Option Tmp) (v : Value) : (a.put d v).tmps.size = a.tmps.size := by
  cases d <;> simp [Act.put]
theorem put_other (a : Act) (d : Option Tmp) (v : Value) {t : Nat} (h : d ≠ some t) : (a.put d v).tmps.getD t undef = a.tmps.getD t undef := by
  cases d with
  | none => rfl
  | some d =>
    have : d ≠ t := fun e => h (by rw [e])
    simp [Act.put, Array.getElem?_setIfInBounds_ne this]
theorem put_defers (a : Act) (d : Option Tmp) (v : Value) : (a.put d v).defers = a.defers := by
  cases d <;> simp [Act.put]
theorem vrel_skip (σ : Sg) : VRel σ (.tup []) undef := by
  simp only [VRel]; exact ⟨#[], rfl, VRels.nil⟩

/-! ### guards -/
theorem at_some {T : TM} {p : Ix} {v : AV} (h : T.get p = some v) : T.at_ p = v := by simp [TM.at_, h]
theorem wanted_ok {σ : Sg} {T : TM} {a : Act} {ops : Array Oper} {o : Oper} {g : Option (Ix × Bool)} {b : Bool} (hT : TRel σ T a.tmps) (hg : guardOf ops o = some g) (h : wantedS T g = some b) :
    Region.wanted o (yielded ops a.tmps) = b := by
  unfold guardOf at hg
  unfold Region.wanted
  cases hgd : o.guard with
  | none =>
    simp only [hgd] at hg
    cases hg
    simp only [wantedS] at h
    cases h; rfl
  | some jw =>
    obtain ⟨j, want⟩ := jw
    simp only [hgd] at hg
    split at hg
    · rename_i t ht
      cases hg
      simp only [wantedS] at h
      split at h
      · rename_i x hx
        cases h
        have := hT t
        rw [at_some hx] at this
        simp only [VRel] at this
        simp only [yielded, ht, Option.bind_some]
        cases hq : a.tmps[t]? with
        | none => simp [hq, undef] at this
        | some u =>
          simp [hq] at this
          subst this
          cases x <;> cases want <;> rfl
      · rename_i x hx
        cases h
        have := hT t
        rw [at_some hx] at this
        simp only [VRel] at this
        obtain ⟨cs, this, _⟩ := this
        simp only [yielded, ht, Option.bind_some]
        cases hq : a.tmps[t]? with
        | none => rfl
        | some u =>
          simp [hq] at this
          subst this
          rfl
      · cases h
    · cases hg
/-! ### calls -/
theorem runF_enter {f : Nat} {fn : Func} {c : Code} (hf : P.funcs[f]? = some fn) (hn : fn.name ≠ "runtime.NumGoroutine") (hb : fn.body = some c) (args : Array Value) (w : World) :
    (callFunc f args).run P w = .ok (.enter f args) w := by
  simp [callFunc, Sem.run, program, hf, hn, hb]
theorem enterT_rel {σ : Sg} : ∀ (args : List AV) (vals : List Value) (n : Nat) (T : TM) (tmps : Array Value), VRels σ args vals → (∀ t, t < n → VRel σ (T.at_ (Ix.ofTmp t)) (tmps.getD t undef)) →
    (∀ t, n ≤ t → T.get (Ix.ofTmp t) = none) → (∀ k v, vals[k]? = some v → tmps[n + k]? = some v) → TRel σ (enterT n args T) tmps
  | [], vals, n, T, tmps, hr, h1, h2, h3 => by
    intro t
    by_cases ht : t < n
    · exact h1 t ht
    · simp only [enterT, TM.at_, h2 t (by omega)]
      simp only [VRel]
  | x :: args, vals, n, T, tmps, hr, h1, h2, h3 => by
    simp only [VRels] at hr
    obtain ⟨v, rest, rfl, hv, hr⟩ := hr
    simp only [enterT]
    apply enterT_rel args rest (n + 1) _ tmps hr
    · intro t ht
      rw [ofTmp_at_set]
      by_cases htn : n = t
      · subst htn
        rw [if_pos rfl]
        have := h3 0 v rfl
        simp only [Nat.add_zero] at this
        simp [this, hv]
      · rw [if_neg htn]; exact h1 t (by omega)
    · intro t ht
      rw [Tr.get_set_other _ _ _ _ (fun e => by have := Ix.ofTmp_inj e; omega)]
      exact h2 t (by omega)
    · intro k w hw
      have := h3 (k + 1) w hw
      rw [← this]; congr 1; omega
/-- one result, read -/
def resSem (tmps : Array Value) : ResultVar → Sem Value
  | .tmp t => Pure.pure (tmps.getD t undef)
  | .cell a t => do loadVar t (← asAddr (tmps.getD a undef))
theorem results_eq (fn : Func) (tmps : Array Value) : results fn tmps = (do
    let vs ← fn.results.mapM (resSem tmps)
    Pure.pure (if h : vs.size = 1 then vs[0] else .tuple vs)) := rfl
theorem loadResult_ok {σ : Sg} {A : AW} {W : World} {T : TM} {tmps : Array Value} (hW : WRel P σ A W) (hT : TRel σ T tmps) {r : ResultVar} {rv : RVar} {v : AV} (hr : resOf P r = some rv) (h : loadResult A T rv = some v) :
    ∃ cv, (resSem tmps r).run P W = .ok cv W ∧ VRel σ v cv := by
  cases r with
  | tmp t =>
    simp only [resOf, Option.some.injEq] at hr
    subst hr
    simp only [loadResult, Option.some.injEq] at h
    exact ⟨_, rfl, by rw [← h]; exact hT t⟩
  | cell a t =>
    simp only [resOf, Option.bind_eq_bind, Option.bind_eq_some_iff, Option.pure_def] at hr
    obtain ⟨b, hb, hr⟩ := hr
    have ht := hT a
    have key : ∀ (p : Ix) (off : Nat), T.get (Ix.ofTmp a) = some (.ptr p off) → ∃ e, σ p = some e ∧ (asAddr (tmps.getD a undef)).run P W = .ok ⟨e.blk, e.sh + off, none⟩ W := by
      intro p off hp
      rw [at_some hp] at ht
      simp only [VRel] at ht
      obtain ⟨e, he, hv⟩ := ht
      exact ⟨e, he, by rw [hv]; rfl⟩
    split at hr
    · rename_i hbt
      subst hbt
      simp only [Option.bind_eq_some_iff, Option.some.injEq] at hr
      obtain ⟨n, hn, rfl⟩ := hr
      simp only [loadResult] at h
      split at h
      · rename_i p off hp
        obtain ⟨e, he, ha⟩ := key p off hp
        split at h
        · rename_i l et g z ho
          split at h
          · rename_i vs hvs
            cases h
            obtain ⟨us, hu, hrl, _⟩ := cells_of hW ho he hvs
            refine ⟨.agg us, ?_, by simp only [VRel]; exact ⟨us, rfl, hrl⟩⟩
            simp only [resSem, Sem.run_bind, ha, Result.andThen_ok, loadVar, isAgg_run hb, sizeOf_run hn, hu, if_true, Sem.run_pure]
          · cases h
        · cases h
      · cases h
    · rename_i hbt
      have hbt : b = false := by simpa using hbt
      subst hbt
      cases hr
      simp only [loadResult] at h
      split at h
      · rename_i p off hp
        obtain ⟨e, he, ha⟩ := key p off hp
        split at h
        · rename_i l et g z ho
          rw [listGet_eq] at h
          obtain ⟨cv, hc, hv⟩ := cell_of hW ho he h
          refine ⟨cv, ?_, hv⟩
          simp only [resSem, Sem.run_bind, ha, Result.andThen_ok, loadVar, isAgg_run hb]
          simp [load, Sem.run, hc]
        · cases h
      · cases h
theorem loadResults_ok {σ : Sg} {A : AW} {W : World} {T : TM} {tmps : Array Value} (hW : WRel P σ A W) (hT : TRel σ T tmps) : ∀ {rs : List ResultVar} {rvs : List RVar} {vs : List AV}, rs.mapM (resOf P) = some rvs → loadResults A T rvs = some vs →
    ∃ cvs, (rs.mapM (resSem tmps)).run P W = .ok cvs W ∧ VRels σ vs cvs
  | [], rvs, vs, h1, h2 => by
    simp at h1; subst h1
    simp [loadResults] at h2; subst h2
    exact ⟨[], by simp, VRels.nil⟩
  | r :: rs, rvs, vs, h1, h2 => by
    simp only [List.mapM_cons, Option.bind_eq_bind, Option.bind_eq_some_iff, Option.pure_def, Option.some.injEq] at h1
    obtain ⟨rv, hrv, rvs', hrvs, rfl⟩ := h1
    simp only [loadResults] at h2
    split at h2
    · rename_i v hv
      split at h2
      · rename_i vs' hvs
        cases h2
        obtain ⟨cv, g1, g2⟩ := loadResult_ok hW hT hrv hv
        obtain ⟨cvs, g3, g4⟩ := loadResults_ok hW hT hrvs hvs
        refine ⟨cv :: cvs, ?_, VRels.cons g2 g4⟩
        rw [List.mapM_cons]
        simp only [Sem.run_bind]
        rw [g1]
        simp only [Result.andThen_ok, Sem.run_bind, g3, Sem.run_pure]
      · cases h2
    · cases h2
theorem results_ok {σ : Sg} {A : AW} {W : World} {T : TM} {tmps : Array Value} {fn : Func} {res : List RVar} {vs : List AV} (hW : WRel P σ A W) (hT : TRel σ T tmps) (hr : fn.results.toList.mapM (resOf P) = some res) (h : loadResults A T res = some vs) :
    ∃ cv, (results fn tmps).run P W = .ok cv W ∧ VRel σ (resultOf vs) cv := by
  obtain ⟨cvs, h1, h2⟩ := loadResults_ok hW hT hr h
  have e : (fn.results.mapM (resSem tmps)).run P W = .ok cvs.toArray W := by
    rw [Array.mapM_eq_mapM_toList, Sem.run_map, h1]; rfl
  have hl := h2.length
  rw [results_eq]
  simp only [Sem.run_bind, e, Result.andThen_ok, Sem.run_pure]
  refine ⟨_, rfl, ?_⟩
  · match vs, cvs, h2, hl with
    | [], [], _, _ => simp [resultOf, VRel]
    | [v], [c], h2, _ => exact (VRels.cons_iff.1 h2).1
    | v :: u :: vs, c :: d :: cvs, h2, _ =>
      have : ¬ (c :: d :: cvs).toArray.size = 1 := by simp
      rw [dif_neg this]
      simp only [resultOf, VRel]
      exact ⟨_, rfl, h2⟩
end Go.AE
