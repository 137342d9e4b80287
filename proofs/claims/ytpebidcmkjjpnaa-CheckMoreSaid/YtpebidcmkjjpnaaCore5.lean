/- The core, fifth part: the rest of the reading operations. -/
import Derived.Test.YtpebidcmkjjpnaaCore4
namespace Pg
open Go
set_option linter.unusedSimpArgs false
set_option linter.unusedVariables false

theorem sim_seq {P : Program} {o : Oper} {op : BinOp} {t u : TypeId} {fs : Array Field} {x y : Operand} {rx ry : ROpd} {neg : Bool} {ks : List Nat} (ho : o.op = .binOp op t x y u) (hop : op = if neg then .neq else .eql) (hu : P.underlying t = some (.struct fs)) (hf : flatAt P 10000 t = some ks) (hg : P.eqGuardType P.depth t = false)
    (hx : ropd x = some rx) (hy : ropd y = some ry) : SimRd P o (.seq neg ks rx ry) := by
  refine .pure fun I w h a va av s t' k => ?_
  have h1 := ropd_rd s hx
  have h2 := ropd_rd s hy
  simp only [aread] at k
  generalize va rx = p at h1 k
  generalize va ry = q at h2 k
  generalize hvx : a.eval x = vx at h1
  generalize hvy : a.eval y = vy at h2
  cases p with
  | agg X =>
    cases q with
    | agg Y =>
      obtain ⟨VX, rfl, rX, _⟩ := h1.inv_agg
      obtain ⟨VY, rfl, rY, _⟩ := h2.inv_agg
      simp only [aseq, Option.map_eq_some_iff] at k
      obtain ⟨b, hb, rfl⟩ := k
      have e1 : ∀ V : List Value, asVal P t V = .agg V.toArray := fun V => by simp [asVal, hu]
      have h3 := eqFlat_at 10000 t ks hf I w X Y VX VY b rX rY hb
      rw [e1, e1] at h3
      have h4 : (Op.equal t (.agg VX.toArray) (.agg VY.toArray)).run P w = .ok b w := h3
      have he : (eqGuard op t x y (.agg VX.toArray) (.agg VY.toArray)).run P w = .ok () w := run_eqGuard_agg w op t x y _ _ hg
      cases neg <;> simp only [Bool.false_eq_true, if_true, if_false] at hop <;> subst hop
      · have hbin : binOp .eql t (.agg VX.toArray) (.agg VY.toArray) = (do pure (.bool (← Op.equal t (.agg VX.toArray) (.agg VY.toArray)))) := rfl
        refine ⟨.bool (boolNeg false b), ?_, .bool _⟩
        simp only [execOp, ho, hvx, hvy, hbin, Sem.run_bind, he, h4, Result.andThen_ok, Sem.run_pure, boolNeg, Bool.false_eq_true, if_false]
      · have hbin : binOp .neq t (.agg VX.toArray) (.agg VY.toArray) = (do pure (.bool (!(← Op.equal t (.agg VX.toArray) (.agg VY.toArray))))) := rfl
        refine ⟨.bool (boolNeg true b), ?_, .bool _⟩
        simp only [execOp, ho, hvx, hvy, hbin, Sem.run_bind, he, h4, Result.andThen_ok, Sem.run_pure, boolNeg, if_true]
    | _ => simp [aseq] at k
  | _ => simp [aseq] at k

theorem sim_un {P : Program} {o : Oper} {op : UnOp} {t : TypeId} {x : Operand} {rx : ROpd} (ho : o.op = .unOp op t x) (hx : ropd x = some rx) : SimRd P o (.un op rx) := by
  refine .pure fun I w h a va av s t' k => ?_
  have h1 := ropd_rd s hx
  simp only [aread] at k
  generalize va rx = p at h1 k
  generalize hvx : a.eval x = vx at h1
  cases p with
  | int kk n =>
    have := h1.inv_int; subst this
    cases op <;> simp only [aun, Option.some.injEq, reduceCtorEq] at k
    subst k
    exact ⟨_, by simp [execOp, ho, hvx, Op.unary, Op.intArith], .int _ _⟩
  | bool b =>
    have := h1.inv_bool; subst this
    cases op <;> simp only [aun, Option.some.injEq, reduceCtorEq] at k
    subst k
    exact ⟨_, by simp [execOp, ho, hvx, Op.unary], .bool _⟩
  | _ => simp [aun] at k

theorem sim_conv {P : Program} {o : Oper} {src dst : TypeId} {d : TypeDesc} {k' : IntKind} {x : Operand} {rx : ROpd} (ho : o.op = .convert src dst x) (hs : P.underlying src = some d) (hd : P.underlying dst = some (.int k')) (hx : ropd x = some rx) : SimRd P o (.conv k' rx) := by
  refine .pure fun I w h a va av s t' k => ?_
  have h1 := ropd_rd s hx
  simp only [aread] at k
  generalize va rx = p at h1 k
  generalize hvx : a.eval x = vx at h1
  cases p with
  | int kk n =>
    have := h1.inv_int; subst this
    simp only [aconv, Option.some.injEq] at k; subst k
    exact ⟨_, by simp [execOp, ho, hvx, convert, run_underlying hs, run_underlying hd, Conv.intToInt], .int _ _⟩
  | _ => simp [aconv] at k

theorem sim_cstr {P : Program} {o : Oper} {src dst : TypeId} {d : TypeDesc} {x : Operand} {rx : ROpd} (ho : o.op = .convert src dst x) (hs : P.underlying src = some d) (hd : P.underlying dst = some .string) (hx : ropd x = some rx) : SimRd P o (.cstr rx) := by
  refine .pure fun I w h a va av s t' k => ?_
  have h1 := ropd_rd s hx
  simp only [aread] at k
  generalize va rx = p at h1 k
  generalize hvx : a.eval x = vx at h1
  cases p with
  | str z =>
    have := h1.inv_str; subst this
    simp only [acstr, Option.some.injEq] at k; subst k
    exact ⟨_, by simp [execOp, ho, hvx, convert, run_underlying hs, run_underlying hd], .str _⟩
  | _ => simp [acstr] at k

theorem sim_mkI {P : Program} {o : Oper} {t : TypeId} {d : TypeDesc} {x : Operand} {rx : ROpd} (ho : o.op = .makeInterface t x) (hu : P.underlying t = some d) (hd : ∀ ms, d ≠ .interface ms) (hx : ropd x = some rx) : SimRd P o (.mkI t rx) := by
  refine .pure fun I w h a va av s t' k => ?_
  have h1 := ropd_rd s hx
  simp only [aread, Option.some.injEq] at k; subst k
  refine ⟨.iface t (a.eval x), ?_, .iface _ _ _ h1⟩
  simp only [execOp, ho, Instr.makeInterface, Sem.run_bind, run_underlying hu, Result.andThen_ok]
  cases d <;> first | rfl | (exfalso; exact hd _ rfl)

theorem sim_mkF {P : Program} {o : Oper} {fn : Fn} {f c : Array Operand} {rf rc : List ROpd} (ho : o.op = .makeFunc fn f c) (hf : ropds f.toList = some rf) (hc : ropds c.toList = some rc) : SimRd P o (.mkF fn rf rc) := by
  refine .pure fun I w h a va av s t' k => ?_
  simp only [aread, Option.some.injEq] at k; subst k
  have h1 := ropds_rds s hf
  have h2 := ropds_rds s hc
  refine ⟨_, ?_, .of_func h1 h2⟩
  simp only [execOp, ho, Instr.makeFunc, Sem.run_bind, Sem.run_pure, Result.andThen_ok]
  congr 3 <;> apply Array.ext' <;> simp

theorem sim_fa {P : Program} {o : Oper} {t : TypeId} {fs : Array Field} {f : Nat} {fd : Field} {i : TypeInfo} {x : Operand} {rx : ROpd} (ho : o.op = .fieldAddr t x f) (hu : P.underlying t = some (.struct fs)) (hf : fs[f]? = some fd) (hi : P.info? fd.type = some i) (hz : i.size ≠ 0) (hx : ropd x = some rx) :
    SimRd P o (.fa fd.offset rx) := by
  refine .pure fun I w h a va av s t' k => ?_
  have h1 := ropd_rd s hx
  simp only [aread] at k
  generalize va rx = p at h1 k
  generalize hvx : a.eval x = vx at h1
  have run : ∀ b o', vx = .pointer (some ⟨b, o', none⟩) → (execOp a.eval o).run P w = .ok (.value (.pointer (some ⟨b, o' + fd.offset, none⟩))) w := by
    rintro b o' rfl
    have hsz : (Go.sizeOf fd.type).run P w = .ok i.size w := by simp [Go.sizeOf, typeInfo, hi]
    simp only [execOp, ho, hvx, Instr.fieldAt, Sem.run_bind, run_underlying hu, Result.andThen_ok, hf, Instr.sureAddr, Sem.run_pure, fieldPlace, hsz, Sem.run_ite, if_neg hz, add_none]
  cases p with
  | ip cells off =>
    obtain ⟨b, o', vs, rfl, hm, hr, hone⟩ := h1.inv_ip
    simp only [afa, Option.some.injEq] at k; subst k
    exact ⟨_, run b (o' + off) rfl, by rw [Nat.add_assoc]; exact .of_ip _ hm hr hone⟩
  | ptr q =>
    have := h1.inv_ptr; subst this
    match q, k with
    | none, k => simp [afa] at k
    | some ⟨b, o', some z⟩, k => simp [afa] at k
    | some ⟨b, o', none⟩, k =>
      simp only [afa, Option.some.injEq] at k; subst k
      exact ⟨_, run b o' rfl, .ptr _⟩
  | _ => simp [afa] at k

theorem sim_ia {P : Program} {o : Oper} {t el : TypeId} {i : TypeInfo} {x y : Operand} {rx ry : ROpd} (ho : o.op = .indexAddr t x y) (hu : P.underlying t = some (.slice el)) (hi : P.info? el = some i) (hx : ropd x = some rx) (hy : ropd y = some ry) : SimRd P o (.ia i.size rx ry) := by
  refine .pure fun I w h a va av s t' k => ?_
  have h1 := ropd_rd s hx
  have h2 := ropd_rd s hy
  simp only [aread] at k
  generalize va rx = p at h1 k
  generalize va ry = q at h2 k
  generalize hvx : a.eval x = vx at h1
  generalize hvy : a.eval y = vy at h2
  have hel : P.elem t = el := by simp [Program.elem, hu]
  have hsz : (Go.sizeOf el).run P w = .ok i.size w := by simp [Go.sizeOf, typeInfo, hi]
  have run : ∀ (b o' n cap : Nat) (j : IntKind) (m : Int), vx = .slice (some ⟨b, o', none⟩) n cap → vy = .int j m → 0 ≤ m ∧ m < n → (execOp a.eval o).run P w = .ok (.value (.pointer (some ⟨b, o' + m.toNat * i.size, none⟩))) w := by
    rintro b o' n cap j m rfl rfl hm
    simp only [execOp, ho, hvx, hvy, Sem.run_bind, run_indexAt_slice w t ⟨b, o', none⟩ n cap j m (by rw [hel]; exact hu), if_pos hm, hel, hsz, Result.andThen_ok, Sem.run_pure, add_none]
  have key : ∀ (es : List (List AV)) (full : Bool), Rd I (.sl es full) vx → aia i.size (.sl es full) q = some av → ∃ v, (execOp a.eval o).run P w = .ok (.value v) w ∧ Rd I av v := by
    intro es full h1 k
    cases q with
    | int j m =>
      have := h2.inv_int; subst this
      simp only [aia] at k
      split at k
      · rename_i hm
        cases he : es[m.toNat]? with
        | none => simp [he] at k
        | some el' =>
          simp only [he] at k
          split at k
          · rename_i hlen
            simp only [Option.some.injEq] at k; subst k
            have hlt : m.toNat < es.length := by
              rcases Nat.lt_or_ge m.toNat es.length with h | h
              · exact h
              · rw [List.getElem?_eq_none h] at he; cases he
            obtain ⟨p, cap, rfl, hc, hf, hsp, hn, hes⟩ := h1.inv_sl
            rcases hes with rfl | ⟨b, o', size, vss, rfl, R⟩
            · simp at hlt
            · have hv : m.toNat < vss.length := by rw [← R.len]; exact hlt
              have hvs := List.getElem?_eq_getElem hv
              obtain ⟨s1, s2⟩ := R.size_ m.toNat el' _ he hvs
              have hsize : size = i.size := by rw [← s1, hlen]
              refine ⟨_, run b o' es.length cap j m rfl rfl ⟨hm, by omega⟩, ?_⟩
              have := Rd.of_ip (I := I) (cells := el') (b := b) (o := o' + m.toNat * i.size) (vs := vss[m.toNat]) 0 (fun jj u hu => by rw [← hsize]; exact R.mem _ _ _ _ hvs hu) ⟨by rw [s1, s2], fun jj c v e1 e2 => R.rd _ _ _ _ _ _ he hvs e1 e2⟩ (R.one _ _ hvs)
              simpa using this
          · cases k
      · cases k
    | _ => simp [aia] at k
  cases p with
  | sl es full => exact key es full h1 k
  | gs es b cap => exact key es false h1.gs_sl (by cases q <;> exact k)
  | os b n cap =>
    cases q with
    | int j m =>
      have := h2.inv_int; subst this
      have := h1.inv_os; subst this
      simp only [aia] at k
      split at k
      · rename_i hm
        simp only [Option.some.injEq] at k; subst k
        exact ⟨_, run b 0 n cap j m rfl rfl hm, by rw [Nat.zero_add]; exact .ptr _⟩
      · cases k
    | _ => simp [aia] at k
  | _ => simp [aia] at k

theorem sim_six {P : Program} {o : Oper} {t : TypeId} {x y : Operand} {rx ry : ROpd} (ho : o.op = .index t x y) (hu : P.underlying t = some .string) (hx : ropd x = some rx) (hy : ropd y = some ry) : SimRd P o (.six rx ry) := by
  refine .pure fun I w h a va av s t' k => ?_
  have h1 := ropd_rd s hx
  have h2 := ropd_rd s hy
  simp only [aread] at k
  generalize va rx = p at h1 k
  generalize va ry = q at h2 k
  generalize hvx : a.eval x = vx at h1
  generalize hvy : a.eval y = vy at h2
  cases p with
  | str z =>
    cases q with
    | int j m =>
      have := h1.inv_str; subst this
      have := h2.inv_int; subst this
      simp only [asix] at k
      split at k
      · rename_i hm
        simp only [Option.map_eq_some_iff] at k
        obtain ⟨b, hb, rfl⟩ := k
        exact ⟨_, by simp [execOp, ho, hvx, hvy, Instr.index, asIntOf, run_underlying hu, hm, hb], .int _ _⟩
      · cases k
    | _ => simp [asix] at k
  | _ => simp [asix] at k

theorem sim_ext {P : Program} {o : Oper} {x : Operand} {i : Nat} {rx : ROpd} (ho : o.op = .extract x i) (hx : ropd x = some rx) : SimRd P o (.ext rx i) := by
  refine .pure fun I w h a va av s t' k => ?_
  have h1 := ropd_rd s hx
  simp only [aread] at k
  generalize va rx = p at h1 k
  generalize hvx : a.eval x = vx at h1
  cases p with
  | tuple cs =>
    obtain ⟨vs, rfl, r⟩ := h1.inv_tuple
    simp only [aext] at k
    obtain ⟨v, h3, h4⟩ := r.get k
    exact ⟨v, by simp [execOp, ho, hvx, Instr.extract, h3], h4⟩
  | _ => simp [aext] at k

theorem sim_len {P : Program} {o : Oper} {t : TypeId} {d : TypeDesc} {x : Operand} {rx : ROpd} {kd : Nat} (ho : o.op = .call { callee := .builtin .len, args := #[x], argTypes := #[t] }) (hu : P.underlying t = some d)
    (hd : match kd, d with | 0, .string | 1, .slice _ | 2, .map _ _ => True | _, _ => False) (hx : ropd x = some rx) : SimRd P o (.len kd rx) := by
  refine .pure fun I w h a va av s t' k => ?_
  have h1 := ropd_rd s hx
  simp only [aread] at k
  generalize va rx = p at h1 k
  generalize hvx : a.eval x = vx at h1
  have run : ∀ n : Nat, (Builtin.len_ #[t] o.type #[vx]).run P w = .ok (goInt n) w → (execOp a.eval o).run P w = .ok (.value (.int .i64 n)) w := by
    intro n hn
    simp only [execOp, ho, resolve, invoke, builtin, Sem.run_bind, Sem.run_pure, Result.andThen_ok, List.map_toArray, List.map_cons, List.map_nil, hvx, hn]
    rfl
  unfold alen at k
  split at k
  · rename_i z
    have := h1.inv_str; subst this
    simp only [Option.some.injEq] at k; subst k
    cases d <;> first | (exact hd.elim) | exact ⟨_, run z.size (by simp [Builtin.len_, run_underlying hu]), .int _ _⟩
  · rename_i es full
    obtain ⟨q, cap, rfl, _⟩ := h1.inv_sl
    simp only [Option.some.injEq] at k; subst k
    cases d <;> first | (exact hd.elim) | exact ⟨_, run es.length (by simp [Builtin.len_, run_underlying hu]), .int _ _⟩
  · rename_i b n cap
    have := h1.inv_os; subst this
    simp only [Option.some.injEq] at k; subst k
    cases d <;> first | (exact hd.elim) | exact ⟨_, run n (by simp [Builtin.len_, run_underlying hu]), .int _ _⟩
  · rename_i es b cap
    obtain ⟨q, vss, rfl, _⟩ := h1.inv_gs
    simp only [Option.some.injEq] at k; subst k
    cases d <;> first | (exact hd.elim) | exact ⟨_, run es.length (by simp [Builtin.len_, run_underlying hu]), .int _ _⟩
  · have := h1.inv_map; subst this
    simp only [Option.some.injEq] at k; subst k
    cases d <;> first | (exact hd.elim) | exact ⟨_, run 0 (by simp [Builtin.len_, run_underlying hu]), .int _ _⟩
  · rename_i r
    have := h1.inv_map; subst this
    cases hr : h r with
    | none => simp [hr] at k
    | some ob =>
      cases ob with
      | blk _ _ _ => simp [hr] at k
      | tail _ _ _ => simp [hr] at k
      | mp es =>
        simp only [hr, Option.some.injEq] at k; subst k
        obtain ⟨ms, c, g1, g2, g3, g4⟩ := t'.obj _ _ hr
        have hl := g2.len
        simp only [List.length_map, Array.length_toList] at hl
        rw [hl]
        cases d <;> first | (exact hd.elim) | exact ⟨_, run ms.size (by simp [Builtin.len_, run_underlying hu, getObj, Sem.run, g1]), .int _ _⟩
  · cases k

theorem sim_mx {P : Program} {o : Oper} {tt : Array TypeId} {x y : Operand} {rx ry : ROpd} (ho : o.op = .call { callee := .builtin .max, args := #[x, y], argTypes := tt }) (hx : ropd x = some rx) (hy : ropd y = some ry) : SimRd P o (.mx rx ry) := by
  refine .pure fun I w h a va av s t' k => ?_
  have h1 := ropd_rd s hx
  have h2 := ropd_rd s hy
  simp only [aread] at k
  generalize va rx = p at h1 k
  generalize va ry = q at h2 k
  generalize hvx : a.eval x = vx at h1
  generalize hvy : a.eval y = vy at h2
  cases p with
  | int k1 m =>
    cases q with
    | int k2 n =>
      have := h1.inv_int; subst this
      have := h2.inv_int; subst this
      simp only [amx] at k
      split at k
      · simp only [Option.some.injEq] at k; subst k
        exact ⟨_, by simp [execOp, ho, resolve, invoke, builtin, Builtin.max_, Builtin.max2, hvx, hvy], .int _ _⟩
      · cases k
    | _ => simp [amx] at k
  | _ => simp [amx] at k
theorem sim_mn {P : Program} {o : Oper} {tt : Array TypeId} {x y : Operand} {rx ry : ROpd} (ho : o.op = .call { callee := .builtin .min, args := #[x, y], argTypes := tt }) (hx : ropd x = some rx) (hy : ropd y = some ry) : SimRd P o (.mn rx ry) := by
  refine .pure fun I w h a va av s t' k => ?_
  have h1 := ropd_rd s hx
  have h2 := ropd_rd s hy
  simp only [aread] at k
  generalize va rx = p at h1 k
  generalize va ry = q at h2 k
  generalize hvx : a.eval x = vx at h1
  generalize hvy : a.eval y = vy at h2
  cases p with
  | int k1 m =>
    cases q with
    | int k2 n =>
      have := h1.inv_int; subst this
      have := h2.inv_int; subst this
      simp only [amn] at k
      split at k
      · simp only [Option.some.injEq] at k; subst k
        exact ⟨_, by simp [execOp, ho, resolve, invoke, builtin, Builtin.min_, Builtin.min2, hvx, hvy], .int _ _⟩
      · cases k
    | _ => simp [amn] at k
  | _ => simp [amn] at k

end Pg
