
set_option linter.all false
set_option maxHeartbeats 4000000
set_option maxRecDepth 100000
theorem om {p:Prop} (h:p:=by omega):p:=h
theorem dd {p:Prop} (h:p:=by decide):p:=h
