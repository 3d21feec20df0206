/- Ideal runs of the values' functions. -/
import Derived.Test.YtobpbjmnonbblaaDoorCode
import Derived.Test.YtobpbjmnonbblaaDoorStep
namespace Go.Proofs.YtobpbjmnonbblaaDoor
attribute [local go_sem] evOps evOp_n evOp_r evOp_d evOp_dr kpo_refl kpo_app cnd_some cnd_pair cnd_cnd_t cnd_cnd_f cnd_same cnd_dvb cnd_and cnd_or gd_bool gd_boolf gd_tup cnd_t cnd_f evTo isCall evx put lk Od.v keepEnv enterEnv ldx_ref rdc binx binI binS unx eqk DV.isU DV.cells hget hget0 hset hset0 stx_ref splice fillp mat eqcs eqs one_bool one_int one_str one_nilp one_ref one_elem one_nils one_list one_row one_nilm one_map one_nilf one_func one_nili one_ifc one_agg one_tup one_undef one_fresh
attribute [local go_sem ↓] evx_pick
set_option linter.unusedVariables false
set_option linter.unusedSimpArgs false
set_option maxRecDepth 10000

/-- A value. -/
structure V where
  k : Int
  n : Int
  s : ByteArray
  t : Bool
abbrev V.d (v : V) : DV := .agg [.int .i64 v.k, .int .i64 v.n, .str v.s, .bool v.t]
def V0 : V := ⟨0, 0, ⟨#[]⟩, false⟩

theorem beq_bytes (a : ByteArray) : (a == a) = true := by
  show (a.data == a.data) = true
  simp
def cmpI (a b : Int) : Int := if a < b then -1 else if b < a then 1 else 0
def ltS (a b : ByteArray) : Bool := Op.bytesLess a.toList b.toList
def cmpS (a b : ByteArray) : Int := if ltS a b then -1 else if !(ltS a b || a == b) then 1 else 0
def ord (a b : V) : Int := if a.k ≠ b.k then cmpI a.k b.k else if a.k = 1 then cmpI a.n b.n else if a.k = 2 then cmpS a.s b.s else if a.k = 3 then cmpI (if a.t then 1 else 0) (if b.t then 1 else 0) else 0
end Go.Proofs.YtobpbjmnonbblaaDoor
